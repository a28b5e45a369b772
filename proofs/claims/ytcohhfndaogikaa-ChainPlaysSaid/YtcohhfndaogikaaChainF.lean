/- The helpers of chain's statements, walked: a Set and a Walk by one alone. -/
import Derived.Test.YtcohhfndaogikaaChainS
import Derived.Test.YtcohhfndaogikaaSame
namespace Go.Proofs.Ytcohhfndaogikaa
set_option linter.unusedVariables false
set_option linter.unusedSimpArgs false
open Go Go.RowKit
set_option maxRecDepth 100000
set_option maxHeartbeats 1000000

section
variable {lk n N : Nat} {l : List Int}
theorem lf_cons (f : Nat) {i : Int} (hi : 0 ≤ i) : listFrom lk n l (f + 1) i = i :: listFrom lk n l f (belowI n (l.getD ((lk : Int) + i).toNat 0)) := by
  show (if i < 0 then [] else _) = _
  rw [if_neg (by omega)]
theorem lf_neg (f : Nat) {i : Int} (hi : i < 0) : listFrom lk n l f i = [] := by
  cases f with
  | zero => rfl
  | succ f => show (if i < 0 then [] else _) = _; rw [if_pos hi]
theorem lf_len : ∀ (f : Nat) (i : Int), (listFrom lk n l f i).length ≤ f
  | 0, i => by simp [listFrom]
  | f + 1, i => by
    by_cases hi : 0 ≤ i
    · rw [lf_cons f hi]; have := lf_len f (belowI n (l.getD ((lk : Int) + i).toNat 0)); rw [List.length_cons]; omega
    · rw [lf_neg _ (by omega)]; simp
theorem lf_get : ∀ (f : Nat) (i : Int) (j : Nat), j + 1 < (listFrom lk n l f i).length → (listFrom lk n l f i).getD (j + 1) 0 = belowI n (l.getD ((lk : Int) + (listFrom lk n l f i).getD j 0).toNat 0) ∧ 0 ≤ (listFrom lk n l f i).getD (j + 1) 0
  | 0, i, j, h => by simp [listFrom] at h
  | f + 1, i, j, h => by
    by_cases hi : 0 ≤ i
    · rw [lf_cons f hi] at h ⊢
      generalize hu : belowI n (l.getD ((lk : Int) + i).toNat 0) = u at *
      cases j with
      | zero =>
        simp only [Nat.zero_add, List.getD_cons_succ, List.getD_cons_zero, hu]
        have hu0 : 0 ≤ u := by
          rcases Int.lt_or_le u 0 with h1 | h1
          · rw [lf_neg f h1] at h; simp at h
          · exact h1
        cases f with
        | zero => simp [listFrom] at h
        | succ f => rw [lf_cons f hu0]; simpa using hu0
      | succ j =>
        have := lf_get f u j (by simpa using h)
        simpa using this
    · rw [lf_neg _ (by omega)] at h; simp at h
theorem lf_end : ∀ (f : Nat) (i : Int), listFrom lk n l f i ≠ [] → (listFrom lk n l f i).length < f → belowI n (l.getD ((lk : Int) + (listFrom lk n l f i).getD ((listFrom lk n l f i).length - 1) 0).toNat 0) < 0
  | 0, i, h, _ => by simp [listFrom] at h
  | f + 1, i, h, hf => by
    by_cases hi : 0 ≤ i
    · rw [lf_cons f hi] at hf ⊢
      generalize hu : belowI n (l.getD ((lk : Int) + i).toNat 0) = u at *
      by_cases hr : listFrom lk n l f u = []
      · rw [hr] at hf ⊢
        simp only [List.length_cons, List.length_nil, Nat.zero_add, Nat.sub_self, List.getD_cons_zero, hu]
        rcases Int.lt_or_le u 0 with h1 | h1
        · exact h1
        · cases f with
          | zero => simp at hf
          | succ f => rw [lf_cons f h1] at hr; simp at hr
      · have ih := lf_end f u hr (by simpa using hf)
        have hp := List.length_pos_iff.2 hr
        obtain ⟨q, hq⟩ : ∃ q, (listFrom lk n l f u).length = q + 1 := ⟨(listFrom lk n l f u).length - 1, by omega⟩
        rw [hq] at ih
        simp only [List.length_cons, hq, Nat.add_sub_cancel] at ih ⊢
        simpa using ih
    · rw [lf_neg _ (by omega)] at h; simp at h
theorem lf_mem (hw : ∀ v ∈ l, 0 ≤ v) : ∀ (f : Nat) (i : Int), i < n → ∀ z ∈ listFrom lk n l f i, 0 ≤ z ∧ z < n
  | 0, i, _, z, hz => by simp [listFrom] at hz
  | f + 1, i, hn, z, hz => by
    by_cases hi : 0 ≤ i
    · rw [lf_cons f hi] at hz
      rcases List.mem_cons.1 hz with rfl | hz
      · exact ⟨hi, hn⟩
      · refine lf_mem hw f _ ?_ z hz
        have h0 : 0 ≤ l.getD ((lk : Int) + i).toNat 0 := by
          rcases Nat.lt_or_ge ((lk : Int) + i).toNat l.length with h1 | h1
          · exact hw _ (List.mem_of_getElem? (getD_some h1))
          · rw [getD_end _ h1]; decide
        exact (belowI_bd n _ h0).2
    · rw [lf_neg _ (by omega)] at hz; cases hz
theorem take_snoc0 {L : List Int} {k : Nat} (h : k < L.length) : L.take k ++ [L.getD k 0] = L.take (k + 1) := by
  rw [List.take_succ_eq_append_getElem h, List.getD_eq_getElem?_getD, List.getElem?_eq_getElem h]; rfl
end
theorem entr_csStore : Entr 73 := fun args w => by kernel_rfl
theorem entr_cwLoad : Entr 74 := fun args w => by kernel_rfl
section
variable {w : World} {g : Nat}
theorem csStep_of {o : Bool} {Q : World → Prop} (h : Calls Try.prog 92 #[.pointer (some ⟨g, 0, none⟩)] w fun e w' => e = .returned (.bool o) ∧ Q w') :
    Calls Try.prog 61 #[.pointer (some ⟨g, 0, none⟩)] w fun e w' => e = .returned (.bool o) ∧ Q w' := by
  have H := Lib.hid h
  clear h
  go_enter Try.func61, Try.ntmps61
  go_wp2_with (go_at_call 92; refine (H.out).mono ?_; rintro e w' ⟨rfl, hq⟩)
  go_ret
  exact ⟨rfl, hq⟩
theorem csDone_of {o : Bool} {Q : World → Prop} (h : Calls Try.prog 93 #[.pointer (some ⟨g, 0, none⟩)] w fun e w' => e = .returned (.bool o) ∧ Q w') :
    Calls Try.prog 60 #[.pointer (some ⟨g, 0, none⟩)] w fun e w' => e = .returned (.bool o) ∧ Q w' := by
  have H := Lib.hid h
  clear h
  go_enter Try.func60, Try.ntmps60
  go_wp2_with (go_at_call 93; refine (H.out).mono ?_; rintro e w' ⟨rfl, hq⟩)
  go_ret
  exact ⟨rfl, hq⟩
theorem cwStep_of {o : Bool} {Q : World → Prop} (h : Calls Try.prog 92 #[.pointer (some ⟨g, 0, none⟩)] w fun e w' => e = .returned (.bool o) ∧ Q w') :
    Calls Try.prog 63 #[.pointer (some ⟨g, 0, none⟩)] w fun e w' => e = .returned (.bool o) ∧ Q w' := by
  have H := Lib.hid h
  clear h
  go_enter Try.func63, Try.ntmps63
  go_wp2_with (go_at_call 92; refine (H.out).mono ?_; rintro e w' ⟨rfl, hq⟩)
  go_ret
  exact ⟨rfl, hq⟩
theorem cwDone_of {o : Bool} {Q : World → Prop} (h : Calls Try.prog 93 #[.pointer (some ⟨g, 0, none⟩)] w fun e w' => e = .returned (.bool o) ∧ Q w') :
    Calls Try.prog 64 #[.pointer (some ⟨g, 0, none⟩)] w fun e w' => e = .returned (.bool o) ∧ Q w' := by
  have H := Lib.hid h
  clear h
  go_enter Try.func64, Try.ntmps64
  go_wp2_with (go_at_call 93; refine (H.out).mono ?_; rintro e w' ⟨rfl, hq⟩)
  go_ret
  exact ⟨rfl, hq⟩
end
section
variable {w : World} {m bb N X P lk K g B : Nat} {l zs : List Int} {cc c0 : Int} {x : Acc} {p d s c b : Int} {v : Value}
theorem wlist_no {f : Nat} (hG : Has w g (walkOf (bound f g) c0 X v) 132) :
    Calls Try.prog 62 #[.pointer (some ⟨g, 0, none⟩)] w fun e w' => e = .returned (.slice none 0 0) ∧ w = w' := by
  go_enter Try.func62, Try.ntmps62
  go_wp2_with (go_at_call 64; refine (cwDone_of (mdone_c (o := some f) hG)).mono ?_; rintro e w' ⟨rfl, rfl⟩)
  go_ret
  exact ⟨rfl, rfl⟩
theorem wlist_c (hG : Has w g (walkOf .nilFunc c0 X v) 132) (R : Row B 3 w v (ivals zs)) (hl : zs.length ≤ 100000) :
    Calls Try.prog 62 #[.pointer (some ⟨g, 0, none⟩)] w fun e w' => ∃ v', e = .returned v' ∧ Keeps w w' ∧ Row w.heap.size 3 w' v' (ivals zs) := by
  have hR := R.reads
  obtain ⟨ad, cap, hv, _⟩ := id hR
  subst hv
  have HR := Lib.hid hR
  clear hR
  have FX_ := (hG).facts; simp only [blockFacts, listFacts, cellsAt, Nat.reduceAdd, and_true, true_and, and_assoc] at FX_
  go_enter Try.func62, Try.ntmps62
  go_wp2_with (first
    | (go_at_call 64; refine (cwDone_of (mdone_c (o := none) hG)).mono ?_; rintro e w' ⟨rfl, rfl⟩)
    | (go_at_call 87; refine (clone_c _ _ _ _ HR.out (Nat.le_refl _) (by omega)).mono ?_; rintro e w' ⟨v', rfl, hk, R2⟩))
  go_ret
  exact ⟨v', rfl, hk, R2⟩
/-- What stands of a chain and its memory. -/
structure ChAt (w : World) (m bb N X P lk K : Nat) (p d s c b : Int) (l : List Int) (cc : Int) : Prop where
  hX : Has w X (chainOf m p K d s c b P) 114
  hP : Has w P (stackOf m (0 : Nat) lk K) 138
  mem : ∃ x, Mem w m bb N l cc x
  ok : StOk 0 lk K N l
  may : mayB p K d s c b = true
  hlk : (lk : Int) = 3 + p + s + s
  c0 : 0 ≤ cc
theorem ChAt.nX (h : ChAt w m bb N X P lk K p d s c b l cc) : X ∉ [m, bb] ∧ P ∉ [m, bb] := by
  obtain ⟨x, M⟩ := h.mem
  simp only [List.mem_cons, List.not_mem_nil, or_false, not_or]
  exact ⟨⟨h.hX.ne M.hg (by decide), h.hX.ne M.hb (by decide)⟩, ⟨h.hP.ne M.hg (by decide), h.hP.ne M.hb (by decide)⟩⟩
theorem ChAt.keeps {w' : World} (h : ChAt w m bb N X P lk K p d s c b l cc) (k : Keeps w w') : ChAt w' m bb N X P lk K p d s c b l cc := by
  obtain ⟨x, M⟩ := h.mem
  exact ⟨h.hX.keeps k, h.hP.keeps k, ⟨x, M.keeps k⟩, h.ok, h.may, h.hlk, h.c0⟩
theorem ChAt.step {w' : World} {S : List Nat} {l' : List Int} {cc' : Int} {x' : Acc} (h : ChAt w m bb N X P lk K p d s c b l cc) (hu : Upd S w w') (hX : X ∉ S) (hP : P ∉ S) (M' : Mem w' m bb N l' cc' x') (ok' : StOk 0 lk K N l') (h0 : 0 ≤ cc') : ChAt w' m bb N X P lk K p d s c b l' cc' :=
  ⟨h.hX.upd hu hX, h.hP.upd hu hP, ⟨x', M'⟩, ok', h.may, h.hlk, h0⟩
/-- A link is stored, by one alone. -/
theorem csets_c (u t : Int) (q : Nat) (h : ChAt w m bb N X P lk K p d s c b l cc) (hu : inB u K = true) (ht : t = -1 ∨ inB t K = true) (hq : (lk : Int) + u = q) (hcc : cc < 1000000) :
    Calls Try.prog 17 #[.pointer (some ⟨X, 0, none⟩), .int .i64 u, .int .i64 t] w fun e w' => e = .returned (.bool true) ∧ Upd [m, bb] w w' ∧ ChAt w' m bb N X P lk K p d s c b (l.set q (t + 1)) (cc + 1) := by
  obtain ⟨x, M⟩ := h.mem
  obtain ⟨u0, u1⟩ := inB_true.1 hu
  have t0 : -1 ≤ t ∧ t < K := by
    rcases ht with rfl | ht
    · omega
    · have := inB_true.1 ht; omega
  have hlk1 := h.ok.lk1
  have hlen := h.ok.len
  have hn1 := h.ok.n1
  have hl := h.hlk
  have HQ : Hid (3 + p + s + s + u = (q : Int)) := Lib.hid (by omega)
  have HO : Hid (l[q]? = some (l.getD q 0)) := Lib.hid (getD_some (by omega))
  have HU := Lib.hid hu
  have HT := Lib.hid ht
  have HM := Lib.hid h.may
  have HH := Lib.hid h
  have hc0 := h.c0
  have hX := h.hX
  clear h hu ht hq hl
  go_enter Try.func17, Try.ntmps17
  have tok : True := trivial
  have tok2 : True := trivial
  go_wp2_with (first
    | (go_at_call 27; refine (mkSet_c _ _ hX HU.out HT.out).mono ?_; rintro e w' ⟨g, rfl, hk, hg, HG⟩; have HA := HH.out.keeps hk; have MM := M.keeps hk)
    | (go_at_call 60; have t_ := tok; clear t_ tok; refine (csDone_of (mdone_c (o := some _) HG)).mono ?_; rintro e w' ⟨rfl, rfl⟩)
    | (go_at_call 61; have t_ := tok2; clear t_ tok2; refine (csStep_of (mstep_c (Q := fun w' => ∃ w1, Upd [g] _ w1 ∧ Has w1 g (setOf .nilFunc (0 + 1) X u t) 129 ∧ Upd [m, bb] w1 w' ∧ Mem w' m bb N (l.set q (t + 1)) (cc + 1) _) entr_csStore HG (by decide) (by decide) (fun w1 hu1 h1 => (setStore_c h1 (HA.hX.upd hu1 (by simpa using Has.ne HA.hX HG (by decide))) (MM.upd hu1 (by simpa using Has.ne MM.hg HG (by decide)) (by simpa using Has.ne MM.hb HG (by decide))) HM.out u0 u1 t0.1 t0.2 HQ.out HO.out (by omega)).mono (fun e w' h => ⟨h.1, w1, hu1, h1, h.2.1, h.2.2⟩)))).mono ?_; rintro e w' ⟨rfl, w1, hu1, h1, hu2, M2⟩; have HG2 := h1.upd hu2 (by simp; exact ⟨Has.ne HG MM.hg (by decide), Has.ne HG MM.hb (by decide)⟩))
    | (go_at_call 60; refine (csDone_of (mdone_c (o := none) HG2)).mono ?_; rintro e w' ⟨rfl, rfl⟩)
    | (go_at_call 61; refine (csStep_of (mstep_nil HG2)).mono ?_; rintro e w' ⟨rfl, rfl⟩))
  go_ret
  have hU : Upd [m, bb] w w1 := (Upd.of_keeps hk).fresh hu1 (by simp; exact .inr hg)
  exact ⟨rfl, hU.trans hu2, HH.out.step (hU.trans hu2) HH.out.nX.1 HH.out.nX.2 M2 (HH.out.ok.set _ _ (by omega) (by omega)) (by omega)⟩
/-- One access of a Walk that goes on, of one that ends. -/
theorem cwStep_on {k : Nat} {t : Int} (hG : Has w g (walkOf (bound 74 g) c0 X v) 132) (h : ChAt w m bb N X P lk K p d s c b l cc) (R : Row B 3 w v (ivals zs)) (hz : zs.length = k + 1) (hzb : 0 ≤ zs.getD k 0 ∧ zs.getD k 0 < K) (ht : belowI K (l.getD ((lk : Int) + zs.getD k 0).toNat 0) = t) (t0 : 0 ≤ t) (hkK : k + 1 < K) (hB : B ≤ w.heap.size) (h0 : 0 ≤ c0) (h1 : c0 < 1000000) (hcc : cc < 1000000000) :
    Calls Try.prog 63 #[.pointer (some ⟨g, 0, none⟩)] w fun e w' => e = .returned (.bool true) ∧ ∃ v', Upd (g :: m :: bb :: ownB v) w w' ∧ Has w' g (walkOf (bound 74 g) (c0 + 1) X v') 132 ∧ ChAt w' m bb N X P lk K p d s c b l (cc + 1) ∧ Row B 3 w' v' (ivals (zs ++ [t])) ∧ (∀ y ∈ ownB v', y ∈ ownB v ∨ w.heap.size ≤ y) := by
  obtain ⟨x, M⟩ := h.mem
  have hlk1 := h.ok.lk1
  have hlen := h.ok.len
  have hn1 := h.ok.n1
  have hl := h.hlk
  have hc0 := h.c0
  obtain ⟨q, hq⟩ : ∃ q : Nat, ((lk : Int) + zs.getD k 0).toNat = q := ⟨_, rfl⟩
  rw [hq] at ht
  have ho : l[q]? = some (l.getD q 0) := getD_some (by omega)
  have hob := h.ok.words _ (List.mem_of_getElem? ho)
  have tb := belowI_bd K _ hob.1
  have hzn : zs ≠ [] := List.length_pos_iff.1 (by omega)
  obtain ⟨lb, cap, cur, hv, hL, hcur⟩ := R.formI hzn
  rw [hz] at hv
  subst hv
  have nlg : lb ≠ g := Has.ne hL hG (by decide)
  have nXg : X ≠ g := Has.ne h.hX hG (by decide)
  have nmg : m ≠ g := Has.ne M.hg hG (by decide)
  have nbg : bb ≠ g := Has.ne M.hb hG (by decide)
  have nPg : P ≠ g := Has.ne h.hP hG (by decide)
  have nXl : X ≠ lb := Has.ne h.hX hL (by decide)
  have nPl : P ≠ lb := Has.ne h.hP hL (by decide)
  have nX := h.nX
  simp only [List.mem_cons, List.not_mem_nil, or_false, not_or] at nX
  refine cwStep_of (mstep_c entr_cwLoad hG h0 (by omega) (fun w1 hu h1 => calls_xe ?_))
  have R1 := R.upd hu (by simpa using nlg)
  refine (walkLoad_on h1 (h.hX.upd hu (by simpa using nXg)) (M.upd hu (by simpa using nmg) (by simpa using nbg)) R1 hz ((hL.upd hu (by simpa using nlg)).cellv (hcur k (by omega))) h.may hzb.1 hzb.2 (by omega) ho hob.1 hob.2 ht t0 (by omega) hkK (Nat.le_trans hB hu.size) (by omega)).mono ?_
  rintro e w' ⟨v', rfl, hu2, h2, M2, R2, O2⟩
  have hU : Upd (g :: m :: bb :: ownB (.slice (some ⟨lb, 0, none⟩) (k + 1) cap)) w w' := (hu.mono (by simp)).trans (hu2.mono (by simp))
  refine ⟨v', rfl, hU, h2, h.step hU (by simp; exact ⟨nXg, nX.1.1, nX.1.2, nXl⟩) (by simp; exact ⟨nPg, nX.2.1, nX.2.2, nPl⟩) M2 h.ok (by omega), R2, fun y hy => ?_⟩
  have := hu.size
  rcases O2 y hy with h | h
  · left; simpa using h
  · right; omega
theorem cwStep_end {k : Nat} {t : Int} (hG : Has w g (walkOf (bound 74 g) c0 X v) 132) (h : ChAt w m bb N X P lk K p d s c b l cc) (R : Row B 3 w v (ivals zs)) (hz : zs.length = k + 1) (hzb : 0 ≤ zs.getD k 0 ∧ zs.getD k 0 < K) (ht : belowI K (l.getD ((lk : Int) + zs.getD k 0).toNat 0) = t) (hkK : t < 0 ∨ K ≤ k + 1) (hk : k ≤ 100000) (h0 : 0 ≤ c0) (h1 : c0 < 1000000) (hcc : cc < 1000000000) :
    Calls Try.prog 63 #[.pointer (some ⟨g, 0, none⟩)] w fun e w' => e = .returned (.bool true) ∧ Upd [g, m, bb] w w' ∧ Has w' g (walkOf .nilFunc (c0 + 1) X v) 132 ∧ ChAt w' m bb N X P lk K p d s c b l (cc + 1) ∧ Row B 3 w' v (ivals zs) := by
  obtain ⟨x, M⟩ := h.mem
  have hlk1 := h.ok.lk1
  have hlen := h.ok.len
  have hn1 := h.ok.n1
  have hl := h.hlk
  have hc0 := h.c0
  obtain ⟨q, hq⟩ : ∃ q : Nat, ((lk : Int) + zs.getD k 0).toNat = q := ⟨_, rfl⟩
  rw [hq] at ht
  have ho : l[q]? = some (l.getD q 0) := getD_some (by omega)
  have hob := h.ok.words _ (List.mem_of_getElem? ho)
  have tb := belowI_bd K _ hob.1
  have hzn : zs ≠ [] := List.length_pos_iff.1 (by omega)
  obtain ⟨lb, cap, cur, hv, hL, hcur⟩ := R.formI hzn
  rw [hz] at hv
  subst hv
  have nlg : lb ≠ g := Has.ne hL hG (by decide)
  have nlm : lb ≠ m := Has.ne hL M.hg (by decide)
  have nlb : lb ≠ bb := Has.ne hL M.hb (by decide)
  have nXg : X ≠ g := Has.ne h.hX hG (by decide)
  have nmg : m ≠ g := Has.ne M.hg hG (by decide)
  have nbg : bb ≠ g := Has.ne M.hb hG (by decide)
  have nPg : P ≠ g := Has.ne h.hP hG (by decide)
  have nX := h.nX
  simp only [List.mem_cons, List.not_mem_nil, or_false, not_or] at nX
  refine cwStep_of (mstep_c entr_cwLoad hG h0 (by omega) (fun w1 hu h1 => ?_))
  have R1 := R.upd hu (by simpa using nlg)
  refine (walkLoad_end h1 (h.hX.upd hu (by simpa using nXg)) (M.upd hu (by simpa using nmg) (by simpa using nbg)) R1 hz ((hL.upd hu (by simpa using nlg)).cellv (hcur k (by omega))) h.may hzb.1 hzb.2 (by omega) ho hob.1 hob.2 ht (by omega) (by omega) hkK hk (by omega)).mono ?_
  rintro e w' ⟨rfl, hu2, M2⟩
  have hU : Upd [g, m, bb] w w' := (hu.mono (by simp)).trans (hu2.mono (by simp))
  exact ⟨rfl, hU, h1.upd hu2 (by simp; exact ⟨Ne.symm nmg, Ne.symm nbg⟩), h.step hU (by simp; exact ⟨nXg, nX.1.1, nX.1.2⟩) (by simp; exact ⟨nPg, nX.2.1, nX.2.2⟩) M2 h.ok (by omega), R1.upd hu2 (by simp; exact ⟨nlm, nlb⟩)⟩
/-- A Walk by one alone: each link of the list is loaded once. -/
theorem cwalks_c (u : Int) (h : ChAt w m bb N X P lk K p d s c b l cc) (hu : inB u K = true) (hK : K ≤ 29) (hcc : cc < 1000000) :
    Calls Try.prog 18 #[.pointer (some ⟨X, 0, none⟩), .int .i64 u] w fun e w' => ∃ v, e = .returned (.tuple #[v, .int .i64 (listFrom lk K l K u).length]) ∧ Upd [m, bb] w w' ∧ ChAt w' m bb N X P lk K p d s c b l (cc + (listFrom lk K l K u).length) ∧ Row w.heap.size 3 w' v (ivals (listFrom lk K l K u)) := by
  obtain ⟨x, M⟩ := h.mem
  obtain ⟨u0, u1⟩ := inB_true.1 hu
  obtain ⟨L, hL⟩ : ∃ L, listFrom lk K l K u = L := ⟨_, rfl⟩
  have hw0 : ∀ v ∈ l, 0 ≤ v := fun v hv => (h.ok.words v hv).1
  have hLl : L.length ≤ K := hL ▸ lf_len K u
  have hLm : ∀ z ∈ L, 0 ≤ z ∧ z < K := hL ▸ lf_mem hw0 K u u1
  have hLg : ∀ j : Nat, j + 1 < L.length → L.getD (j + 1) 0 = belowI K (l.getD ((lk : Int) + L.getD j 0).toNat 0) ∧ 0 ≤ L.getD (j + 1) 0 := hL ▸ lf_get K u
  have hLe : L ≠ [] → L.length < K → belowI K (l.getD ((lk : Int) + L.getD (L.length - 1) 0).toNat 0) < 0 := hL ▸ lf_end K u
  obtain ⟨K', hK'⟩ : ∃ K', K = K' + 1 := ⟨K - 1, by omega⟩
  have hL1 : L.take 1 = [u] ∧ 1 ≤ L.length := by
    rw [← hL]
    conv => rw [show listFrom lk K l K u = u :: listFrom lk K l K' (belowI K (l.getD ((lk : Int) + u).toNat 0)) by conv => lhs; rw [show listFrom lk K l K u = listFrom lk K l (K' + 1) u by rw [← hK']]; rw [lf_cons K' u0]]
    simp
  rw [hL]
  have hLne : L ≠ [] := List.length_pos_iff.1 (by omega)
  have hlk1 := h.ok.lk1
  have hlen := h.ok.len
  have hn1 := h.ok.n1
  have hl := h.hlk
  have HL1 := Lib.hid hL1.1
  have HLm := Lib.hid hLm
  have HLg := Lib.hid hLg
  have HLe := Lib.hid (hLe hLne)
  have HU := Lib.hid hu
  have HM := Lib.hid h.may
  have HH := Lib.hid h
  have HWd := Lib.hid h.ok.words
  have hc0 := h.c0
  have hX := h.hX
  have hl1 := hL1.2
  clear h hu hL hLm hLg hLe hL1 hw0 hLne hK'
  go_enter Try.func18, Try.ntmps18
  go_wp2_with (first
    | (go_at_call 28; refine (mkWalk_c _ hX HU.out).mono ?_; rintro e w' ⟨g, lb, rfl, hk, hg, HG, R⟩; have HA := HH.out.keeps hk; have MM := M.keeps hk)
    | (go_at_call 62; refine (wlist_no HG).mono ?_; rintro e w' ⟨rfl, rfl⟩))
  have eR : ivals [u] = ivals (L.take (0 + 1)) := by rw [Nat.zero_add, HL1.out]
  rw [eR] at R
  clear eR
  have GG := Lib.hid (And.intro HG (And.intro HA R))
  have KK := Lib.hid hk
  clear HG HA MM R hk M hX HL1
  go_loopw [8, 9] (fun nv iv wr => ∃ (j : Nat) (v : Value), j ≤ L.length ∧ nv = .int .i64 j ∧ iv = .int .i64 j ∧ Has wr g (walkOf (nxt (if j < L.length then some 74 else none) g) j X v) 132 ∧ Row w.heap.size 3 wr v (ivals (L.take (j + 1))) ∧ ChAt wr m bb N X P lk K p d s c b l (cc + j) ∧ Upd [m, bb] w wr) (fun _ iv _ => L.length - (intOf iv).toNat)
  case atStart => exact ⟨0, .slice (some ⟨lb, 0, none⟩) 1 1, by omega, rfl, rfl, by rw [if_pos (by omega)]; exact GG.out.1, GG.out.2.2, by rw [show cc + ((0 : Nat) : Int) = cc by omega]; exact GG.out.2.1, Upd.of_keeps KK.out⟩
  case round =>
    clear GG KK
    obtain ⟨j, v, hj, rfl, rfl, HG, R, HA, KU⟩ := hrel
    have szr := KU.size
    have hro := R.own
    have hj30 : (j : Int) < 30 := by omega
    have ecc : cc + (j : Int) + 1 = cc + ((j + 1 : Nat) : Int) := by omega
    have HEC := Lib.hid ecc
    clear ecc
    by_cases hlt : j < L.length
    · rw [if_pos hlt] at HG
      have hzl : (L.take (j + 1)).length = j + 1 := by rw [List.length_take]; omega
      have hzg : (L.take (j + 1)).getD j 0 = L.getD j 0 := by rw [List.getD_eq_getElem?_getD, List.getElem?_take_of_lt (by omega), ← List.getD_eq_getElem?_getD]
      have hzb : Hid (0 ≤ (L.take (j + 1)).getD j 0 ∧ (L.take (j + 1)).getD j 0 < K) := Lib.hid (by rw [hzg]; exact HLm.out _ (getD_mem hlt))
      have HZL := Lib.hid hzl
      have HZG := Lib.hid hzg
      clear hzl hzg
      by_cases hlt2 : j + 1 < L.length
      · have HT : Hid (belowI K (l.getD ((lk : Int) + (L.take (j + 1)).getD j 0).toNat 0) = L.getD (j + 1) 0) := Lib.hid (by rw [HZG.out]; exact (HLg.out j hlt2).1.symm)
        have HS : Hid (L.take (j + 1) ++ [L.getD (j + 1) 0] = L.take (j + 1 + 1)) := Lib.hid (take_snoc0 hlt2)
        go_wp2_with (go_at_call 63; refine (cwStep_on (zs := L.take (j + 1)) (k := j) HG HA R HZL.out hzb.out HT.out (HLg.out j hlt2).2 (by omega) szr (by omega) (by omega) (by omega)).mono ?_; rintro e w' ⟨rfl, v2, hu, HG, HA, R, hO⟩; rw [HS.out] at R; rw [HEC.out] at HA; have KU := KU.fresh hu (in_po hg (fun y hy => (hro y hy).1)))
        go_roundw
        case rel => exact ⟨j + 1, v2, by omega, by go_num, by go_num, by rw [if_pos hlt2]; exact HG, R, HA, KU⟩
        case measure => simp [intOf]; omega
      · have HT : Hid (belowI K (l.getD ((lk : Int) + (L.take (j + 1)).getD j 0).toNat 0) < 0 ∨ K ≤ j + 1) := Lib.hid (by
          rw [HZG.out]
          rcases Nat.lt_or_ge L.length K with h1 | h1
          · left
            have := HLe.out h1
            rwa [show L.length - 1 = j by omega] at this
          · right; omega)
        have HS : Hid (L.take (j + 1) = L.take (j + 1 + 1)) := Lib.hid (by rw [List.take_of_length_le (by omega), List.take_of_length_le (by omega)])
        go_wp2_with (go_at_call 63; refine (cwStep_end (zs := L.take (j + 1)) (k := j) HG HA R HZL.out hzb.out rfl HT.out (by omega) (by omega) (by omega) (by omega)).mono ?_; rintro e w' ⟨rfl, hu, HG, HA, R⟩; rw [HS.out] at R; rw [HEC.out] at HA; have KU := KU.fresh hu (in_pu hg))
        go_roundw
        case rel => exact ⟨j + 1, v, by omega, by go_num, by go_num, by rw [if_neg (by omega)]; exact HG, R, HA, KU⟩
        case measure => simp [intOf]; omega
    · obtain rfl : j = L.length := by omega
      rw [if_neg hlt] at HG
      rw [List.take_of_length_le (by omega)] at R
      go_wp2_with (first
        | (go_at_call 63; refine (cwStep_of (mstep_nil HG)).mono ?_; rintro e w' ⟨rfl, rfl⟩)
        | (go_at_call 64; refine (cwDone_of (mdone_c (o := none) HG)).mono ?_; rintro e w' ⟨rfl, rfl⟩)
        | (go_at_call 62; refine (wlist_c HG R (by omega)).mono ?_; rintro e w' ⟨v3, rfl, hk3, R3⟩; have HA := HA.keeps hk3; have KU := KU.trans (Upd.of_keeps hk3)))
      go_ret2
      exact ⟨v3, rfl, KU, HA, R3.mono szr⟩
end
end Go.Proofs.Ytcohhfndaogikaa
