import Derived.Test.YtjhinemdonddoaaMtEi
set_option linter.unusedVariables false
set_option linter.unusedSimpArgs false
namespace Go.Mt

section
variable {X : Ctx} {ops : Array Oper} {C : Cfg}

def putv (d : Option Nat) (v : V) (s : St) : St := match d with
  | some t => ⟨(t, v) :: s.sl, s.bx, s.H⟩
  | none => s

theorem putS_ok {n : Nat} {d : Option Nat} {v : V} {s s' : St} (h : putS n d v s = .ok s') : s' = putv d v s ∧ ∀ t, d = some t → t < n := by
  unfold putS at h
  cases d with
  | none => simp only at h; injection h with h; exact ⟨h.symm, by simp⟩
  | some t =>
    simp only at h
    replace h := bif_ok h; obtain ⟨hc, h⟩ := h
    injection h with h
    exact ⟨h.symm, fun u hu => by injection hu with hu; subst hu; exact blt_lt hc⟩

theorem wantsE_eq {o : Oper} {st : St} {b : Bool} (h : wantsE ops o st.sl = some b) : wants ops o st = some b := by
  unfold wantsE at h
  unfold wants
  split at h
  · rename_i hg; simp only [hg]; exact h
  · rename_i j want hg
    simp only [hg]
    split at h
    · rename_i q hq
      simp only [hq, Option.bind_some]
      split at h
      · rename_i gg hgg
        simp only [hgg]
        split at h
        · rename_i b' hb; simp only [hb]; exact h
        · rename_i hb; simp only [hb]; exact h
        · cases h
      · cases h
    · cases h

theorem opS_of {o : Oper} {st s : St} {v : V} (hw : wants ops o st = some true) (hd : ∀ t, o.dst = some t → t < X.n) (h : OpT X o st (eqp v s)) : OpS X ops o st (putv o.dst v s) := by
  rintro a w ⟨σ, lam, rfl, hi⟩ K Q hK
  rw [if_pos (hi.wanted hw)]
  refine (h a σ lam hi).wp ?_
  rintro u w' ⟨v', s', σ', lam', ⟨rfl, rfl⟩, rfl, h3, h4⟩
  cases hdd : o.dst with
  | none => exact hK _ _ ⟨σ', lam', rfl, by unfold putv; rw [hdd]; exact h3⟩
  | some t => exact hK _ _ ⟨σ', lam', rfl, by unfold putv; rw [hdd]; exact h3.set (hd t hdd) h4⟩
theorem opS_skip {o : Oper} {st : St} (hw : wants ops o st = some false) (hd : ∀ t, o.dst = some t → t < X.n) : OpS X ops o st (putv o.dst (.m (.tup [])) st) := by
  rintro a w ⟨σ, lam, rfl, hi⟩ K Q hK
  rw [if_neg (by rw [hi.wanted hw]; simp)]
  cases hdd : o.dst with
  | none => exact hK _ _ ⟨σ, lam, rfl, by unfold putv; rw [hdd]; exact hi⟩
  | some t => exact hK _ _ ⟨σ, lam, rfl, by unfold putv; rw [hdd]; exact hi.set (hd t hdd) (.m (.tup [] #[] rfl (by intro i m v h; simp at h)))⟩

theorem TL.ofS {o : Oper} {rest : List Oper} {st s : St} {post : St → Prop} (h : OpS X ops o st s) (k : TL X ops rest s post) : TL X ops (o :: rest) st post := by
  intro a w hi
  unfold wpList
  have h1 := h a w hi (fun a' w' => wpList X.P ops (fun e a' w' => e = .normal ∧ ∃ st', post st' ∧ Inv X st' a' w') rest a' w') (fun e a' w' => e = .normal ∧ ∃ st', post st' ∧ Inv X st' a' w') (fun a' w' hi' => k a' w' hi')
  split
  · rename_i hw; rw [if_pos hw] at h1; exact .inl h1
  · rename_i hw; rw [if_neg hw] at h1; exact h1

theorem noLoc_clear {d : Nat} : ∀ {l : List (Nat × V)}, noLoc d l = true → clearLoc d l = l := by
  intro l
  induction l with
  | nil => intro _; rfl
  | cons x l ih =>
    obtain ⟨k, v⟩ := x
    cases v with
    | m m => intro h; simp only [noLoc] at h; simp [clearLoc, ih h]
    | loc u o => intro h; simp only [noLoc, Bool.and_eq_true, Bool.not_eq_true'] at h; simp [clearLoc, h.1, ih h.2]

/-- the old objects, but those that are listed, are as they were -/
def FrB (B : Nat) (H0 H : Hp) (ws : List Nat) : Prop := B ≤ H.length ∧ ∀ i, i < B → i ∉ ws → H[i]? = H0[i]?

theorem mem_addW {B i j : Nat} {ws : List Nat} (h : j ∈ ws) : j ∈ addW B i ws := by
  unfold addW
  cases (Nat.blt i B && !has ws i) <;> simp [h]
theorem self_addW {B i : Nat} {ws : List Nat} (h : i < B) : i ∈ addW B i ws := by
  unfold addW
  have : Nat.blt i B = true := by rw [Nat.blt_eq]; exact h
  cases hh : has ws i with
  | true => simp [this]; exact has_iff.1 hh
  | false => simp [this]
theorem mem_addWs {B j : Nat} : ∀ {us ws : List Nat}, j ∈ ws → j ∈ addWs B us ws
  | [], ws, h => h
  | i :: r, ws, h => mem_addWs (us := r) (mem_addW h)
theorem new_addWs {B j : Nat} (hj : j < B) : ∀ {us ws : List Nat}, j ∈ us → j ∈ addWs B us ws
  | i :: r, ws, h => by
    simp only [List.mem_cons] at h
    rcases h with rfl | h
    · exact mem_addWs (us := r) (self_addW hj)
    · exact new_addWs hj (us := r) h

theorem FrB.set {B i : Nat} {H0 H : Hp} {ws : List Nat} {ob : Ob} (h : FrB B H0 H ws) : FrB B H0 (H.set i ob) (addW B i ws) := by
  refine ⟨by simp [h.1], fun j hj hn => ?_⟩
  have hji : j ≠ i := by rintro rfl; exact hn (self_addW hj)
  rw [List.getElem?_set_ne (Ne.symm hji)]
  exact h.2 j hj fun hm => hn (mem_addW hm)
theorem FrB.app {B : Nat} {H0 H : Hp} {ws : List Nat} {l : Hp} (h : FrB B H0 H ws) : FrB B H0 (H ++ l) ws := by
  refine ⟨by have := h.1; simp; omega, fun j hj hn => ?_⟩
  rw [List.getElem?_append_left (by have := h.1; omega)]
  exact h.2 j hj hn
theorem FrB.call {B : Nat} {H0 H H' : Hp} {us ws : List Nat} (h : FrB B H0 H ws) (hf : Frm H H' us) : FrB B H0 H' (addWs B us ws) := by
  refine ⟨Nat.le_trans h.1 hf.1, fun j hj hn => ?_⟩
  rw [hf.2 j (Nat.lt_of_lt_of_le hj h.1) fun hm => hn (new_addWs hj hm)]
  exact h.2 j hj fun hm => hn (mem_addWs hm)

theorem stepD_ok {o : Oper} {B : Nat} {st s : St} {ws us : List Nat} {dn : Dn} {v : V} (ha : OpA X o st dn) (h : stepD o.dst B st ws dn = .ok (v, s, us)) :
    OpT X o st (eqp v s) ∧ ∀ H0, FrB B H0 st.H ws → FrB B H0 s.H us := by
  unfold stepD at h
  cases dn with
  | val w => simp only at h; injection h with h; injection h with e1 e2; injection e2 with e2 e3; subst e1; subst e2; subst e3; exact ⟨ha, fun _ h => h⟩
  | ld t k =>
    simp only at h
    split at h
    · rename_i cs hb
      split at h
      · rename_i w hk
        injection h with h; injection h with e1 e2; injection e2 with e2 e3; subst e1; subst e2; subst e3
        exact ⟨ha _ _ hb hk, fun _ h => h⟩
      · cases h
    · cases h
  | st t k =>
    simp only at h
    split at h
    · rename_i cs hb
      split at h
      · rename_i cs' hk
        injection h with h; injection h with e1 e2; injection e2 with e2 e3; subst e1; subst e2; subst e3
        exact ⟨ha _ _ hb hk, fun _ h => h⟩
      · cases h
    · cases h
  | nw cs =>
    simp only at h
    split at h
    · rename_i dd hd
      replace h := bif_ok h; obtain ⟨hc, h⟩ := h
      injection h with h; injection h with e1 e2; injection e2 with e2 e3; subst e1; subst e2; subst e3
      have := ha dd hd
      rw [noLoc_clear hc] at this
      exact ⟨this, fun _ h => h⟩
    · cases h
  | rd i k =>
    simp only at h
    split at h
    · rename_i ob hH
      split at h
      · rename_i w hk
        injection h with h; injection h with e1 e2; injection e2 with e2 e3; subst e1; subst e2; subst e3
        exact ⟨ha _ _ hH hk, fun _ h => h⟩
      · cases h
    · cases h
  | rda k =>
    simp only at h
    split at h
    · rename_i w hk
      injection h with h; injection h with e1 e2; injection e2 with e2 e3; subst e1; subst e2; subst e3
      exact ⟨ha _ hk, fun _ h => h⟩
    · cases h
  | up all i k =>
    simp only at h
    split at h
    · rename_i ob hH
      split at h
      · rename_i w ob' hk
        injection h with h; injection h with e1 e2; injection e2 with e2 e3; subst e1; subst e2; subst e3
        exact ⟨ha _ _ _ hH hk, fun _ h => h.set⟩
      · cases h
    · cases h
  | al all k mk =>
    simp only at h
    split at h
    · rename_i ob hk
      injection h with h; injection h with e1 e2; injection e2 with e2 e3; subst e1; subst e2; subst e3
      exact ⟨ha _ _ _ hk (.inl ⟨rfl, rfl⟩), fun _ h => h.app⟩
    · cases h
  | cl k =>
    simp only at h
    split at h
    · rename_i w H' us0 hk
      injection h with h; injection h with e1 e2; injection e2 with e2 e3; subst e1; subst e2; subst e3
      obtain ⟨h1, h2⟩ := ha _ _ _ hk
      exact ⟨h1, fun _ h => h.call h2⟩
    · cases h

theorem evOp_ok (hC : CfgOk C) (hP : C.P = X.P) {B : Nat} {o : Oper} {st s : St} {ws us : List Nat} (h : evOp C X.n B ops o st ws = .ok (s, us)) :
    OpS X ops o st s ∧ ∀ H0, FrB B H0 st.H ws → FrB B H0 s.H us := by
  unfold evOp at h
  split at h
  · rename_i hw
    split at h
    · rename_i dn hdn
      split at h
      · rename_i v s1 us1 hs
        split at h
        · rename_i s2 hp
          injection h with h; injection h with e1 e2; subst e1; subst e2
          obtain ⟨rfl, hd⟩ := putS_ok hp
          obtain ⟨dst, op, ty, pos, af, g⟩ := o
          have ha : OpA X ⟨dst, op, ty, pos, af, g⟩ st dn := den_sound hC hP (fun x hx => rfl) hdn
          obtain ⟨h1, h2⟩ := stepD_ok ha hs
          refine ⟨opS_of (wantsE_eq hw) hd h1, fun H0 h3 => ?_⟩
          have := h2 H0 h3
          unfold putv
          cases dst <;> exact this
        · cases h
      · cases h
    · cases h
  · rename_i hw
    split at h
    · rename_i s2 hp
      injection h with h; injection h with e1 e2; subst e1; subst e2
      obtain ⟨rfl, hd⟩ := putS_ok hp
      refine ⟨opS_skip (wantsE_eq hw) hd, fun H0 h3 => ?_⟩
      unfold putv
      cases o.dst <;> exact h3
    · cases h
  · cases h

theorem evOps_ok (hC : CfgOk C) (hP : C.P = X.P) {B : Nat} : ∀ {l : List Oper} {i : Nat} {st s : St} {ws us : List Nat}, evOps C X.n B ops i l st ws = .ok (s, us) →
    (∀ post : St → Prop, post s → TL X ops l st post) ∧ ∀ H0, FrB B H0 st.H ws → FrB B H0 s.H us
  | [], i, st, s, ws, us, h => by
    simp only [evOps] at h
    injection h with h; injection h with e1 e2; subst e1; subst e2
    exact ⟨fun post hp => TL.nil hp, fun _ h => h⟩
  | o :: r, i, st, s, ws, us, h => by
    simp only [evOps] at h
    split at h
    · rename_i s1 us1 h1
      obtain ⟨h2, h3⟩ := evOp_ok hC hP h1
      obtain ⟨h4, h5⟩ := evOps_ok hC hP h
      exact ⟨fun post hp => TL.ofS h2 (h4 post hp), fun H0 hf => h5 H0 (h3 H0 hf)⟩
    · cases h

/-- free places behind the heap -/
theorem FInv.pad {σ : Sg} {lam : Nat → Nat} {st : St} {a : Act} (hi : FInv X σ lam st a) (k : Nat) : ∃ τ : Sg, τ.w = σ.w ∧ FInv X τ lam ⟨st.sl, st.bx, st.H ++ List.replicate k .free⟩ a := by
  let H' := σ.H ++ List.replicate k Ob.free
  let τ : Sg := ⟨σ.w, σ.O, σ.l, H'⟩
  have hfw : ∀ (i : Nat) ob, σ.H[i]? = some ob → H'[i]? = some ob := by
    intro i ob h
    have hlt : i < σ.H.length := lt_of_get h
    show (σ.H ++ List.replicate k Ob.free)[i]? = _
    rw [List.getElem?_append_left hlt]; exact h
  have hbw : ∀ (i : Nat) ob, H'[i]? = some ob → ob.live → σ.H[i]? = some ob := by
    intro i ob h hl
    have h' : (σ.H ++ List.replicate k Ob.free)[i]? = some ob := h
    rcases Nat.lt_or_ge i σ.H.length with hlt | hge
    · rw [List.getElem?_append_left hlt] at h'; exact h'
    · rw [List.getElem?_append_right hge, List.getElem?_replicate] at h'
      split at h'
      · injection h' with h'; subst h'; exact hl.elim
      · cases h'
  have hm : Mono σ τ := ⟨fun b o v h1 h2 => ⟨h1, h2⟩, fun i cs h => ⟨⟨cs, hfw i _ h⟩, rfl⟩, fun i cs h => ⟨⟨cs, hfw i _ h⟩, rfl⟩, fun i h => hfw i _ h,
    fun i acc ec ver cs h => .inr ⟨acc, ver, cs, hfw i _ h, Nat.le_refl _, fun _ => ⟨rfl, rfl, fun arr T ha => ⟨arr, ha, rfl⟩⟩⟩, fun i h => ⟨_, hfw i _ h⟩⟩
  have hinv : HInv τ (Oof X.Oout lam st.bx) := by
    refine ⟨?_, ?_, ?_, ?_, hi.hinv.old⟩
    · intro i ob h
      by_cases hl : ob.live
      · exact (hi.hinv.obj i ob (hbw i ob h hl)).keep hm fun x hx => hx
      · cases ob <;> first | trivial | exact absurd trivial hl
    · intro i j x y h1 h2 h3 h4 h5
      exact hi.hinv.inj i j x y (hbw i x h1 h3) (hbw j y h2 h4) h3 h4 h5
    · intro b o
      show σ.O b o ↔ _
      rw [hi.hinv.own]
      constructor
      · rintro (h | ⟨i, x, h1, h2, h3⟩)
        · exact .inl h
        · exact .inr ⟨i, x, hfw i x h1, h2, h3⟩
      · rintro (h | ⟨i, x, h1, h2, h3⟩)
        · exact .inl h
        · exact .inr ⟨i, x, hbw i x h1 (Ob.live_of_owns h3), h2, h3⟩
    · intro i ob h1 h2 o h3
      exact hi.hinv.sep i ob (hbw i ob h1 h2) h2 o h3
  have hblk : Blk σ τ := ⟨rfl, rfl, rfl, Nat.le_refl _, fun _ _ _ => rfl, fun i ob h hl => .inr ⟨ob, hbw i ob h hl, hl, rfl⟩⟩
  have := hi.heap hm hinv (fun t cs h => rfl) hblk
  refine ⟨τ, rfl, ?_⟩
  have hH : τ.H = st.H ++ List.replicate k .free := by show σ.H ++ _ = _; rw [hi.hH]
  rw [hH] at this
  exact this
theorem TC.pad {c : Code} {st : St} {post : Exit → St → Prop} (k : Nat) (h : TC X c ⟨st.sl, st.bx, st.H ++ List.replicate k .free⟩ post) : TC X c st post := by
  rintro a w ⟨σ, lam, rfl, hi⟩
  obtain ⟨τ, h1, h2⟩ := hi.pad k
  rw [← h1]
  exact h a _ ⟨τ, lam, rfl, h2⟩

theorem front_nil {N : Nat} {H : Hp} (h : N ≤ H.length) : Fine.front N H [] ++ H.drop N = H := by
  refine Fine.hp_ext (N := N) (by simp [Fine.front_length]) h ?_ (Fine.front_drop _ _ _ _)
  intro i hi
  rw [Fine.front_get _ _ _ _ _ hi]
  rfl
theorem front_set {N i : Nat} {H : Hp} {ob : Ob} (h : N ≤ H.length) (hi : i < N) : Fine.front N H [(i, ob)] ++ H.drop N = H.set i ob := by
  refine Fine.hp_ext (N := N) (by simp [Fine.front_length]) (by simp; exact h) ?_ ?_
  · intro j hj
    rw [Fine.front_get _ _ _ _ _ hj]
    by_cases e : i = j
    · subst e
      simp [get_cons, List.getD_eq_getElem?_getD, show i < H.length by omega]
    · have hg : get [(i, ob)] j = none := by rw [get_cons, if_neg e]; rfl
      rw [hg]
      simp [List.getD_eq_getElem?_getD, List.getElem?_set_ne e]
  · rw [Fine.front_drop, List.drop_set_of_lt hi]
end
end Go.Mt
