/- Lemmas for this claim: part 12. No condition. -/
import Derived.Test.YtiflemdfnjgobaaDoorZ10
import Derived.Test.YtiflemdfnjgobaaDoorZ11
/- The reader of terms. -/
namespace Tab
open Go Go.Proofs
set_option maxRecDepth 10000
set_option linter.unusedVariables false
set_option linter.unusedSimpArgs false
set_option linter.unusedSectionVars false
set_option maxHeartbeats 1000000

def tcl (t : TT) : List AV := [.int .i64 t.op, .int .i64 t.num, .str t.name, .sl t.k t.args.length (ttsC t.args)]
theorem tcl_closed (t : TT) : closeds (tcl t) := by have := TT.cells_closed t; rwa [TT.cells_eq] at this
theorem tcl_bel (n : Nat) (t : TT) : bels n (tcl t) := closeds_bel _ (tcl_closed t)
theorem tcl_two (op : Int) (a b : TT) : tcl (.mk op 0 [] .any [a, b]) = [.int .i64 op, .int .i64 0, .str [], .sl .any 2 (tcl a ++ tcl b)] := by
  simp only [tcl, TT.op, TT.num, TT.name, TT.k, TT.args, ttsC, TT.cells_eq, List.append_nil]; rfl
theorem tcl_one (op : Int) (a : TT) : tcl (.mk op 0 [] .any [a]) = [.int .i64 op, .int .i64 0, .str [], .sl .any 1 (tcl a)] := by
  simp only [tcl, TT.op, TT.num, TT.name, TT.k, TT.args, ttsC, TT.cells_eq, List.append_nil]; rfl
theorem tcl_nil (op num : Int) (s : Str) : tcl (.mk op num s .nil []) = [.int .i64 op, .int .i64 num, .str s, .sl .nil 0 []] := by
  simp only [tcl, TT.op, TT.num, TT.name, TT.k, TT.args, ttsC]; rfl
def zT : List AV := [.int .i64 0, .int .i64 0, .str [], .sl .nil 0 []]
theorem zT_bel (n : Nat) : bels n zT := by simp [zT, bels, AV.bel]
theorem rdX_bel {n : Nat} (e : Nat × Nat) (r : Rs) {X : List Blk} (h : blksBel n X) : blksBel n (rdH e r ++ X) := ⟨rdC_bel e r n, h⟩

/-- A reading function's contract. -/
def TermC (f : FuncId) (e : Nat × Nat) (r : Rs) (x : TT × Rs) : Prop := ACall Tryd.prog f [.ref 0 0 0] (rdH e r) fun o H' => o = .ret (.agg (tcl x.1)) ∧ H' = rdH e x.2
theorem TermC.of {f : FuncId} {e : Nat × Nat} {r : Rs} {x : TT × Rs} (h : ACall Tryd.prog f [.ref 0 0 0] (rdH e r) fun o H' => ∃ X, o = .ret (.agg (tcl x.1)) ∧ H' = rdH e x.2 ++ X) : TermC f e r x :=
  ACall.drop h (Nat.le_refl 1) (by simp only [AV.bel]; exact tcl_bel _ _) (rdH_bel _ _ _)

/-- In a drawn region: a reading call. -/

theorem w_product (e : Nat × Nat) (n : Nat) (hF : ∀ r : Rs, 16 * r.ws.length + 1 ≤ n → TermC 103 e r (pFa e n r)) (hFm : ∀ m, m < n → ∀ r : Rs, 16 * r.ws.length + 1 ≤ m → TermC 103 e r (pFa e m r)) (r : Rs) (hn : 16 * r.ws.length + 2 ≤ n + 1) : TermC 74 e r (pP e (n + 1) r) := by
  refine TermC.of ?_
  rw [pP]
  have hf := hF r (by omega)
  have hle := (terms_le e n).2.2.2.2 r
  generalize pFa e n r = x0 at *
  rcases x0 with ⟨t0, s0⟩
  simp only at hle hf ⊢
  have hn0 : 16 * s0.ws.length + 1 ≤ n := by omega
  clear hn hle
  generalize hfin : pPL e n (t0, s0) = fin at *
  refine ACall.of_sw 16 Tryd.func74 rfl Tryd.ntmps74 (by kernel_rfl) (Nat.le_of_ble_eq_true (by kernel_rfl)) ?_; refine SW.of_vc ?_
  repeat first | refine opsStep ?_ | refine codeStep ?_ | refine drawStep ?_
  refine callT (args := [.ref 0 0 0]) hf [.cells 0 zT] rfl rfl (by simp [bels, AV.bel, rdH]) (rdH_bel _ _ _) (rdH_bel _ _ _) (by simp only [AV.bel]; exact tcl_bel _ _) ?_
  repeat first | refine opsStep ?_ | refine codeStep ?_ | refine drawStep ?_
  refine loopE_of (ι := {x : (TT × Rs) × Nat // x.2 ≤ n ∧ pPL e x.2 x.1 = fin ∧ 16 * x.1.2.ws.length + 1 ≤ x.2}) (fun x => (fr [(0, .ref 0 0 0), (2, .ref 1 0 0), (3, .ref 2 0 0)], rdH e x.1.1.2 ++ [.cells 0 zT, .cells 0 (tcl x.1.1.1)])) (fun x => x.1.2)
    ⟨((t0, s0), n), Nat.le_refl _, hfin, hn0⟩ (Ent.fr' ⟨(by kernel_rfl), (by kernel_rfl), (by kernel_rfl), trivial⟩ (by kernel_rfl)) ?_
  rintro ⟨⟨⟨t, s⟩, m⟩, h0, h1, h2⟩
  simp only at h0 h1 h2
  obtain ⟨m, rfl⟩ : ∃ k, m = k + 1 := ⟨m - 1, by omega⟩
  have hk := rd_take e s [tMul] (by simp) (by simp [tMul])
  have hlt := @take_lt s [tMul] (by simp [tMul])
  rw [pPL] at h1
  simp only at h1
  generalize s.take [tMul] = k at *
  rcases k with ⟨kt, ks⟩
  simp only at hk hlt h1
  repeat refine codeStep ?_
  iterate 1 refine opsStep ?_
  refine opsFrz ?_
  iterate 1 refine opsStep ?_
  refine callT (args := [.ref 0 0 0, aSs .any [tMul]]) hk [.cells 0 zT, .cells 0 (tcl t), .fro 0 [.str tMul]] rfl rfl (by simp [bels, AV.bel, aSs, rdH]) (rdH_bel _ _ _) (rdH_bel _ _ _) (by simp [AV.bel, bels]) ?_
  repeat first | refine opsStep ?_ | refine codeStep ?_ | refine drawStep ?_
  refine decB_dec (fun hkt => ?_) (fun hkt => ?_)
  · have hkt : kt ≠ [] := hkt
    rw [if_pos hkt] at h1
    have hlt := hlt hkt
    have hf := hFm m (by omega) ks (by omega)
    have hle := (terms_le e m).2.2.2.2 ks
    generalize pFa e m ks = y at *
    rcases y with ⟨u, s'⟩
    simp only at hf hle h1
    repeat refine codeStep ?_
    refine SW.drawn rfl (by kernel_rfl) ?_
    iterate 2 refine drawStep ?_
    refine drawGot ?_
    refine gotCallW 0 hf rfl rfl (by kernel_rfl) (by kernel_rfl) (by kernel_rfl) (by simp [bels, AV.bel]) (rdC_bel _ _ _) (rdC_bel _ _ _) (by simp only [AV.closed]; exact tcl_closed _) ?_
    refine drawFrzN ?_
    refine optX_of (c := tcl t ++ tcl u) (by kernel_rfl) ?_
    repeat first | refine opsStep ?_ | refine codeStep ?_ | refine drawStep ?_
    refine ⟨by kernel_rfl, ?_⟩
    repeat first | refine opsStep ?_ | refine codeStep ?_ | refine drawStep ?_
    exact ⟨⟨((.mk 5 0 [] .any [t, u], s'), m), by omega, h1, by show 16 * s'.ws.length + 1 ≤ m; omega⟩, Nat.lt_succ_self m, Ent.frD (X := [.fro 0 [.str tMul], .fro 0 (tcl t ++ tcl u)]) ⟨(by kernel_rfl), (by kernel_rfl), (by kernel_rfl), trivial⟩ (Eq.trans (b := rdH e s' ++ [.cells 0 zT, .cells 0 [.int .i64 5, .int .i64 0, .str [], .sl .any 2 (tcl t ++ tcl u)], .fro 0 [.str tMul], .fro 0 (tcl t ++ tcl u)]) (by kernel_rfl) (congrArg (fun z => rdH e s' ++ [.cells 0 zT, .cells 0 z, .fro 0 [.str tMul], .fro 0 (tcl t ++ tcl u)]) (tcl_two 5 t u).symm)) (by show 1 ≤ 3; decide) (by simp [frBel, AV.bel, rdH]) (rdX_bel _ _ ⟨zT_bel _, tcl_bel _ _, trivial⟩)⟩
  · have hkt : kt = [] := Decidable.of_not_not hkt
    rw [if_neg (by simp [hkt])] at h1
    subst h1
    repeat first | refine opsStep ?_ | refine codeStep ?_ | refine drawStep ?_
    exact finC [.cells 0 (tcl t), .cells 0 (tcl t), .fro 0 [.str tMul]] (v' := .agg (tcl t)) (by kernel_rfl) rfl (by kernel_rfl)


/-- Behind the signs: a name or a number. -/
def leafT (e : Nat × Nat) (s : Rs) : TT × Rs := if s.fl.why = 0 ∧ s.ws ≠ [] ∧ s.hd.kind = 0 then (.mk 1 0 (s.word e 0).1.text .nil [], (s.word e 0).2) else (.mk 0 (s.word e 1).1.num [] .nil [], (s.word e 1).2)
theorem w_factor (e : Nat × Nat) (n : Nat) (hT : ∀ r : Rs, 16 * r.ws.length + 3 ≤ n → TermC 48 e r (pT e n r)) (hF : ∀ r : Rs, 16 * r.ws.length + 1 ≤ n → TermC 103 e r (pFa e n r)) (r : Rs) (hn : 16 * r.ws.length + 1 ≤ n + 1) : TermC 103 e r (pFa e (n + 1) r) := by
  refine TermC.of ?_
  have hk := rd_take e r [tOpen, tSub] (by simp) (by simp [tOpen, tSub])
  have hlt := @take_lt r [tOpen, tSub] (by simp [tOpen, tSub])
  rw [pFa]
  generalize hfin : (if (r.take [tOpen, tSub]).1 = tOpen then _ else _ : TT × Rs) = fin
  generalize r.take [tOpen, tSub] = k at *
  rcases k with ⟨kt, ks⟩
  simp only at hk hlt hfin
  refine ACall.of_sw 49 Tryd.func103 rfl Tryd.ntmps103 (by kernel_rfl) (Nat.le_of_ble_eq_true (by kernel_rfl)) ?_; refine SW.of_vc ?_
  repeat refine codeStep ?_
  iterate 2 refine opsStep ?_
  repeat refine codeStep ?_
  iterate 1 refine opsStep ?_
  refine opsFrz ?_
  refine optX_of (c := [tOpen, tSub].map AV.str) (by kernel_rfl) ?_
  iterate 1 refine opsStep ?_
  refine callT (args := [.ref 0 0 0, aSs .any [tOpen, tSub]]) hk [.cells 0 zT, .fro 0 [.str tOpen, .str tSub]] rfl rfl (by simp [bels, AV.bel, aSs, rdH]) (rdH_bel _ _ _) (rdH_bel _ _ _) (by simp [AV.bel, bels]) ?_
  repeat first | refine opsStep ?_ | refine codeStep ?_ | refine drawStep ?_
  refine decB_dec (fun h1 => ?_) (fun h1 => ?_)
  · have h1 : kt = tOpen := h1
    rw [if_pos h1] at hfin
    have hlt := hlt (by rw [h1]; simp [tOpen])
    have hT := hT ks (by omega)
    generalize pT e n ks = y at *
    rcases y with ⟨t, s⟩
    simp only at hfin hT
    have hnd := rd_need e s tClose (by simp [tClose])
    repeat first | refine opsStep ?_ | refine codeStep ?_ | refine drawStep ?_
    refine callT (args := [.ref 0 0 0]) hT [.cells 0 zT, .fro 0 [.str tOpen, .str tSub]] rfl rfl (by simp [bels, AV.bel, rdH]) (rdH_bel _ _ _) (rdH_bel _ _ _) (by simp only [AV.bel]; exact tcl_bel _ _) ?_
    repeat first | refine opsStep ?_ | refine codeStep ?_ | refine drawStep ?_
    refine callT (args := [.ref 0 0 0, .str tClose]) hnd [.cells 0 zT, .fro 0 [.str tOpen, .str tSub], .cells 0 (tcl t)] rfl rfl (by simp [bels, AV.bel, rdH]) (rdH_bel _ _ _) (rdH_bel _ _ _) (by simp [AV.bel, bels]) ?_
    repeat first | refine opsStep ?_ | refine codeStep ?_ | refine drawStep ?_
    subst hfin
    exact finC [.cells 0 (tcl t), .fro 0 [.str tOpen, .str tSub], .cells 0 (tcl t)] (v' := .agg (tcl t)) (by kernel_rfl) rfl (by kernel_rfl)
  · have h1 : kt ≠ tOpen := h1
    rw [if_neg h1] at hfin
    repeat first | refine opsStep ?_ | refine codeStep ?_ | refine drawStep ?_
    refine decB_dec (fun h2 => ?_) (fun h2 => ?_)
    · have h2 : kt = tSub := h2
      rw [if_pos h2] at hfin
      have hlt := hlt (by rw [h2]; simp [tSub])
      have hF := hF ks (by omega)
      generalize pFa e n ks = y at *
      rcases y with ⟨t, s⟩
      simp only at hfin hF
      repeat refine codeStep ?_
      iterate 2 refine opsStep ?_
      refine callT (args := [.ref 0 0 0]) hF [.cells 0 zT, .fro 0 [.str tOpen, .str tSub]] rfl rfl (by simp [bels, AV.bel, rdH]) (rdH_bel _ _ _) (rdH_bel _ _ _) (by simp only [AV.bel]; exact tcl_bel _ _) ?_
      refine opsFrz ?_
      repeat first | refine opsStep ?_ | refine codeStep ?_ | refine drawStep ?_
      subst hfin
      exact finC [.cells 0 [.int .i64 2, .int .i64 0, .str [], .sl .any 1 (tcl t)], .fro 0 [.str tOpen, .str tSub], .fro 0 (tcl t)] (v' := .agg [.int .i64 2, .int .i64 0, .str [], .sl .any 1 (tcl t)]) (by kernel_rfl) (by rw [tcl_one]) (by kernel_rfl)
    · have h2 : kt ≠ tSub := h2
      rw [if_neg h2] at hfin
      have hfin : leafT e ks = fin := hfin
      unfold leafT at hfin
      have hbd := rd_bad e ks
      have hw1 := rd_word e ks 1
      have hw0 := rd_word e ks 0
      repeat first | refine opsStep ?_ | refine codeStep ?_ | refine drawStep ?_
      rcases ks with ⟨ws, fl⟩
      cases ws with
      | nil =>
        have hL := hfin.symm.trans (if_neg fun h => h.2.1 rfl)
        clear hfin
        refine callT (args := [.ref 0 0 0]) hbd [.cells 0 zT, .fro 0 [.str tOpen, .str tSub]] rfl rfl (by simp [bels, AV.bel, rdH]) (rdH_bel _ _ _) (rdH_bel _ _ _) (by simp [AV.bel, bels]) ?_
        repeat first | refine opsStep ?_ | refine codeStep ?_ | refine drawStep ?_
        refine decB_split (fun hb => ?_) (fun hb => ?_)
        · repeat first | refine opsStep ?_ | refine codeStep ?_ | refine drawStep ?_
          refine callT (args := [.ref 0 0 0, .int .i64 1]) hw1 [.cells 0 zT, .fro 0 [.str tOpen, .str tSub]] rfl rfl (by simp [bels, AV.bel, rdH]) (rdH_bel _ _ _) (rdH_bel _ _ _) (by simp only [AV.bel]; exact closeds_bel _ (wdC_closed _)) ?_
          generalize Rs.word e _ 1 = w at *
          repeat first | refine opsStep ?_ | refine codeStep ?_ | refine drawStep ?_
          exact finC [_, _] (v' := .agg (tcl (.mk 0 w.1.num [] .nil []))) (by kernel_rfl) (by rw [hL]) (by rw [hL]; try rfl)
        · repeat first | refine opsStep ?_ | refine codeStep ?_ | refine drawStep ?_
          refine callT (args := [.ref 0 0 0, .int .i64 1]) hw1 [.cells 0 zT, .fro 0 [.str tOpen, .str tSub]] rfl rfl (by simp [bels, AV.bel, rdH]) (rdH_bel _ _ _) (rdH_bel _ _ _) (by simp only [AV.bel]; exact closeds_bel _ (wdC_closed _)) ?_
          generalize Rs.word e _ 1 = w at *
          repeat first | refine opsStep ?_ | refine codeStep ?_ | refine drawStep ?_
          exact finC [_, _] (v' := .agg (tcl (.mk 0 w.1.num [] .nil []))) (by kernel_rfl) (by rw [hL]) (by rw [hL]; try rfl)
      | cons w l =>
        refine callT (args := [.ref 0 0 0]) hbd [.cells 0 zT, .fro 0 [.str tOpen, .str tSub]] rfl rfl (by simp [bels, AV.bel, rdH]) (rdH_bel _ _ _) (rdH_bel _ _ _) (by simp [AV.bel, bels]) ?_
        repeat first | refine opsStep ?_ | refine codeStep ?_ | refine drawStep ?_
        refine decB_split (fun hb => ?_) (fun hb => ?_)
        rotate_left
        · have hb : fl.why ≠ 0 := by simpa using hb
          have hL := hfin.symm.trans (if_neg fun h => hb h.1)
          clear hfin
          repeat first | refine opsStep ?_ | refine codeStep ?_ | refine drawStep ?_
          refine callT (args := [.ref 0 0 0, .int .i64 1]) hw1 [.cells 0 zT, .fro 0 [.str tOpen, .str tSub]] rfl rfl (by simp [bels, AV.bel, rdH]) (rdH_bel _ _ _) (rdH_bel _ _ _) (by simp only [AV.bel]; exact closeds_bel _ (wdC_closed _)) ?_
          generalize Rs.word e _ 1 = w at *
          repeat first | refine opsStep ?_ | refine codeStep ?_ | refine drawStep ?_
          exact finC [_, _] (v' := .agg (tcl (.mk 0 w.1.num [] .nil []))) (by kernel_rfl) (by rw [hL]) (by rw [hL]; try rfl)
        · have hb : fl.why = 0 := by simpa using hb
          repeat first | refine opsStep ?_ | refine codeStep ?_ | refine drawStep ?_
          refine decB_true (b := decide (((l.length + 1 : Nat) : Int) > 0)) (by simp) ?_
          repeat first | refine opsStep ?_ | refine codeStep ?_ | refine drawStep ?_
          refine guardE_of ⟨by decide, by show (0 : Int) < ((l.length + 1 : Nat) : Int); omega⟩ ?_
          repeat first | refine opsStep ?_ | refine codeStep ?_ | refine drawStep ?_
          refine decB_dec (fun hk0 => ?_) (fun hk0 => ?_)
          · have hL := hfin.symm.trans (if_pos ⟨hb, by simp, hk0⟩)
            clear hfin
            repeat first | refine opsStep ?_ | refine codeStep ?_ | refine drawStep ?_
            refine callT (args := [.ref 0 0 0, .int .i64 0]) hw0 [.cells 0 zT, .fro 0 [.str tOpen, .str tSub]] rfl rfl (by simp [bels, AV.bel, rdH]) (rdH_bel _ _ _) (rdH_bel _ _ _) (by simp only [AV.bel]; exact closeds_bel _ (wdC_closed _)) ?_
            generalize Rs.word e _ 0 = w at *
            repeat first | refine opsStep ?_ | refine codeStep ?_ | refine drawStep ?_
            exact finC [_, _] (v' := .agg (tcl (.mk 1 0 w.1.text .nil []))) (by kernel_rfl) (by rw [hL]) (by rw [hL]; try rfl)
          · have hL := hfin.symm.trans (if_neg fun h => hk0 h.2.2)
            clear hfin
            repeat first | refine opsStep ?_ | refine codeStep ?_ | refine drawStep ?_
            refine callT (args := [.ref 0 0 0, .int .i64 1]) hw1 [.cells 0 zT, .fro 0 [.str tOpen, .str tSub]] rfl rfl (by simp [bels, AV.bel, rdH]) (rdH_bel _ _ _) (rdH_bel _ _ _) (by simp only [AV.bel]; exact closeds_bel _ (wdC_closed _)) ?_
            generalize Rs.word e _ 1 = w at *
            repeat first | refine opsStep ?_ | refine codeStep ?_ | refine drawStep ?_
            exact finC [_, _] (v' := .agg (tcl (.mk 0 w.1.num [] .nil []))) (by kernel_rfl) (by rw [hL]) (by rw [hL]; try rfl)

theorem w_term (e : Nat × Nat) (n : Nat) (hP : ∀ r : Rs, 16 * r.ws.length + 2 ≤ n → TermC 74 e r (pP e n r)) (hPm : ∀ m, m < n → ∀ r : Rs, 16 * r.ws.length + 2 ≤ m → TermC 74 e r (pP e m r)) (r : Rs) (hn : 16 * r.ws.length + 3 ≤ n + 1) : TermC 48 e r (pT e (n + 1) r) := by
  refine TermC.of ?_
  rw [pT]
  have hf := hP r (by omega)
  have hle := (terms_le e n).2.2.1 r
  generalize pP e n r = x0 at *
  rcases x0 with ⟨t0, s0⟩
  simp only at hle hf ⊢
  have hn0 : 16 * s0.ws.length + 2 ≤ n := by omega
  clear hn hle
  generalize hfin : pTL e n (t0, s0) = fin at *
  refine ACall.of_sw 24 Tryd.func48 rfl Tryd.ntmps48 (by kernel_rfl) (Nat.le_of_ble_eq_true (by kernel_rfl)) ?_; refine SW.of_vc ?_
  repeat first | refine opsStep ?_ | refine codeStep ?_ | refine drawStep ?_
  refine callT (args := [.ref 0 0 0]) hf [.cells 0 zT] rfl rfl (by simp [bels, AV.bel, rdH]) (rdH_bel _ _ _) (rdH_bel _ _ _) (by simp only [AV.bel]; exact tcl_bel _ _) ?_
  repeat first | refine opsStep ?_ | refine codeStep ?_ | refine drawStep ?_
  refine loopE_of (ι := {x : (TT × Rs) × Nat // x.2 ≤ n ∧ pTL e x.2 x.1 = fin ∧ 16 * x.1.2.ws.length + 2 ≤ x.2}) (fun x => (fr [(0, .ref 0 0 0), (2, .ref 1 0 0), (3, .ref 2 0 0)], rdH e x.1.1.2 ++ [.cells 0 zT, .cells 0 (tcl x.1.1.1)])) (fun x => x.1.2)
    ⟨((t0, s0), n), Nat.le_refl _, hfin, hn0⟩ (Ent.fr' ⟨(by kernel_rfl), (by kernel_rfl), (by kernel_rfl), trivial⟩ (by kernel_rfl)) ?_
  rintro ⟨⟨⟨t, s⟩, m⟩, h0, h1, h2⟩
  simp only at h0 h1 h2
  obtain ⟨m, rfl⟩ : ∃ k, m = k + 1 := ⟨m - 1, by omega⟩
  have hk := rd_take e s [tAdd, tSub] (by simp) (by simp [tAdd, tSub])
  have hlt := @take_lt s [tAdd, tSub] (by simp [tAdd, tSub])
  rw [pTL] at h1
  simp only at h1
  generalize s.take [tAdd, tSub] = k at *
  rcases k with ⟨kt, ks⟩
  simp only at hk hlt h1
  repeat refine codeStep ?_
  iterate 1 refine opsStep ?_
  refine opsFrz ?_
  refine optX_of (c := [tAdd, tSub].map AV.str) (by kernel_rfl) ?_
  iterate 1 refine opsStep ?_
  refine callT (args := [.ref 0 0 0, aSs .any [tAdd, tSub]]) hk [.cells 0 zT, .cells 0 (tcl t), .fro 0 [.str tAdd, .str tSub]] rfl rfl (by simp [bels, AV.bel, aSs, rdH]) (rdH_bel _ _ _) (rdH_bel _ _ _) (by simp [AV.bel, bels]) ?_
  repeat first | refine opsStep ?_ | refine codeStep ?_ | refine drawStep ?_
  refine decB_dec (fun ha => ?_) (fun ha => ?_)
  · have ha : kt = tAdd := ha
    rw [if_pos ha] at h1
    have hlt := hlt (by rw [ha]; simp [tAdd])
    have hf := hPm m (by omega) ks (by omega)
    have hle := (terms_le e m).2.2.1 ks
    generalize pP e m ks = y at *
    rcases y with ⟨u, s'⟩
    simp only at hf hle h1
    repeat refine codeStep ?_
    refine SW.drawn rfl (by kernel_rfl) ?_
    iterate 2 refine drawStep ?_
    refine drawGot ?_
    refine gotCallW 0 hf rfl rfl (by kernel_rfl) (by kernel_rfl) (by kernel_rfl) (by simp [bels, AV.bel]) (rdC_bel _ _ _) (rdC_bel _ _ _) (by simp only [AV.closed]; exact tcl_closed _) ?_
    refine drawFrzN ?_
    refine optX_of (c := tcl t ++ tcl u) (by kernel_rfl) ?_
    repeat first | refine opsStep ?_ | refine codeStep ?_ | refine drawStep ?_
    refine ⟨by kernel_rfl, ?_⟩
    repeat first | refine opsStep ?_ | refine codeStep ?_ | refine drawStep ?_
    exact ⟨⟨((.mk 3 0 [] .any [t, u], s'), m), by omega, h1, by show 16 * s'.ws.length + 2 ≤ m; omega⟩, Nat.lt_succ_self m, Ent.frD (X := [.fro 0 [.str tAdd, .str tSub], .fro 0 (tcl t ++ tcl u)]) ⟨(by kernel_rfl), (by kernel_rfl), (by kernel_rfl), trivial⟩ (Eq.trans (b := rdH e s' ++ [.cells 0 zT, .cells 0 [.int .i64 3, .int .i64 0, .str [], .sl .any 2 (tcl t ++ tcl u)], .fro 0 [.str tAdd, .str tSub], .fro 0 (tcl t ++ tcl u)]) (by kernel_rfl) (congrArg (fun z => rdH e s' ++ [.cells 0 zT, .cells 0 z, .fro 0 [.str tAdd, .str tSub], .fro 0 (tcl t ++ tcl u)]) (tcl_two 3 t u).symm)) (by show 1 ≤ 3; decide) (by simp [frBel, AV.bel, rdH]) (rdX_bel _ _ ⟨zT_bel _, tcl_bel _ _, trivial⟩)⟩
  · have ha : kt ≠ tAdd := ha
    rw [if_neg ha] at h1
    repeat first | refine opsStep ?_ | refine codeStep ?_ | refine drawStep ?_
    refine decB_dec (fun hb => ?_) (fun hb => ?_)
    · have hb : kt = tSub := hb
      rw [if_pos hb] at h1
      have hlt := hlt (by rw [hb]; simp [tSub])
      have hf := hPm m (by omega) ks (by omega)
      have hle := (terms_le e m).2.2.1 ks
      generalize pP e m ks = y at *
      rcases y with ⟨u, s'⟩
      simp only at hf hle h1
      repeat refine codeStep ?_
      refine SW.drawn rfl (by kernel_rfl) ?_
      iterate 2 refine drawStep ?_
      refine drawGot ?_
      refine gotCallW 0 hf rfl rfl (by kernel_rfl) (by kernel_rfl) (by kernel_rfl) (by simp [bels, AV.bel]) (rdC_bel _ _ _) (rdC_bel _ _ _) (by simp only [AV.closed]; exact tcl_closed _) ?_
      refine drawFrzN ?_
      refine optX_of (c := tcl t ++ tcl u) (by kernel_rfl) ?_
      repeat first | refine opsStep ?_ | refine codeStep ?_ | refine drawStep ?_
      refine ⟨by kernel_rfl, ?_⟩
      repeat first | refine opsStep ?_ | refine codeStep ?_ | refine drawStep ?_
      exact ⟨⟨((.mk 4 0 [] .any [t, u], s'), m), by omega, h1, by show 16 * s'.ws.length + 2 ≤ m; omega⟩, Nat.lt_succ_self m, Ent.frD (X := [.fro 0 [.str tAdd, .str tSub], .fro 0 (tcl t ++ tcl u)]) ⟨(by kernel_rfl), (by kernel_rfl), (by kernel_rfl), trivial⟩ (Eq.trans (b := rdH e s' ++ [.cells 0 zT, .cells 0 [.int .i64 4, .int .i64 0, .str [], .sl .any 2 (tcl t ++ tcl u)], .fro 0 [.str tAdd, .str tSub], .fro 0 (tcl t ++ tcl u)]) (by kernel_rfl) (congrArg (fun z => rdH e s' ++ [.cells 0 zT, .cells 0 z, .fro 0 [.str tAdd, .str tSub], .fro 0 (tcl t ++ tcl u)]) (tcl_two 4 t u).symm)) (by show 1 ≤ 3; decide) (by simp [frBel, AV.bel, rdH]) (rdX_bel _ _ ⟨zT_bel _, tcl_bel _ _, trivial⟩)⟩
    · have hb : kt ≠ tSub := hb
      rw [if_neg hb] at h1
      subst h1
      repeat first | refine opsStep ?_ | refine codeStep ?_ | refine drawStep ?_
      exact finC [.cells 0 (tcl t), .cells 0 (tcl t), .fro 0 [.str tAdd, .str tSub]] (v' := .agg (tcl t)) (by kernel_rfl) rfl (by kernel_rfl)

theorem w_terms (e : Nat × Nat) : ∀ n, (∀ r : Rs, 16 * r.ws.length + 3 ≤ n → TermC 48 e r (pT e n r)) ∧ (∀ r : Rs, 16 * r.ws.length + 2 ≤ n → TermC 74 e r (pP e n r)) ∧ (∀ r : Rs, 16 * r.ws.length + 1 ≤ n → TermC 103 e r (pFa e n r)) := by
  intro n
  induction n using Nat.strongRecOn with
  | _ n ih =>
    cases n with
    | zero => exact ⟨fun r h => by omega, fun r h => by omega, fun r h => by omega⟩
    | succ n =>
      exact ⟨w_term e n (ih n (by omega)).2.1 (fun m hm => (ih m (by omega)).2.1), w_product e n (ih n (by omega)).2.2 (fun m hm => (ih m (by omega)).2.2), w_factor e n (ih n (by omega)).1 (ih n (by omega)).2.2⟩

end Tab

/- The reader of formulas. -/
namespace Tab
open Go Go.Proofs
set_option maxRecDepth 10000
set_option linter.unusedVariables false
set_option linter.unusedSimpArgs false
set_option linter.unusedSectionVars false
set_option maxHeartbeats 1000000

def fcl (f : FT) : List AV := [.int .i64 f.op, .str f.name, .int .i64 f.md, .sl f.tk f.terms.length (ttsC f.terms), .sl f.ak f.args.length (ftsC f.args)]
theorem fcl_closed (t : FT) : closeds (fcl t) := by have := FT.cells_closed t; rwa [FT.cells_eq] at this
theorem fcl_bel (n : Nat) (t : FT) : bels n (fcl t) := closeds_bel _ (fcl_closed t)
theorem fcl_two (op : Int) (a b : FT) : fcl (twoF op a b) = [.int .i64 op, .str [], .int .i64 0, .sl .nil 0 [], .sl .any 2 (fcl a ++ fcl b)] := by
  simp only [twoF, fcl, FT.op, FT.name, FT.md, FT.tk, FT.ak, FT.terms, FT.args, ttsC, ftsC, FT.cells_eq, List.append_nil]; rfl
theorem fcl_one (op : Int) (s : Str) (a : FT) : fcl (oneF op s a) = [.int .i64 op, .str s, .int .i64 0, .sl .nil 0 [], .sl .any 1 (fcl a)] := by
  simp only [oneF, fcl, FT.op, FT.name, FT.md, FT.tk, FT.ak, FT.terms, FT.args, ttsC, ftsC, FT.cells_eq, List.append_nil]; rfl
theorem fcl_atom (op md : Int) (a b : TT) : fcl (.mk op [] md .any [a, b] .nil []) = [.int .i64 op, .str [], .int .i64 md, .sl .any 2 (tcl a ++ tcl b), .sl .nil 0 []] := by
  simp only [fcl, tcl, FT.op, FT.name, FT.md, FT.tk, FT.ak, FT.terms, FT.args, ttsC, ftsC, TT.cells_eq, List.append_nil]; rfl
def zF : List AV := [.int .i64 0, .str [], .int .i64 0, .sl .nil 0 [], .sl .nil 0 []]
theorem zF_bel (n : Nat) : bels n zF := by simp [zF, bels, AV.bel]

/-- A reading function's contract. -/
def FormC (f : FuncId) (xs : List AV) (e : Nat × Nat) (r : Rs) (x : FT × Rs) : Prop := ACall Tryd.prog f (.ref 0 0 0 :: xs) (rdH e r) fun o H' => o = .ret (.agg (fcl x.1)) ∧ H' = rdH e x.2
theorem FormC.of {f : FuncId} {xs : List AV} {e : Nat × Nat} {r : Rs} {x : FT × Rs} (h : ACall Tryd.prog f (.ref 0 0 0 :: xs) (rdH e r) fun o H' => ∃ X, o = .ret (.agg (fcl x.1)) ∧ H' = rdH e x.2 ++ X) : FormC f xs e r x :=
  ACall.drop h (Nat.le_refl 1) (by simp only [AV.bel]; exact fcl_bel _ _) (rdH_bel _ _ _)
theorem le_pF (e : Nat × Nat) (n : Nat) (r : Rs) : (pF e n r).2.ws.length ≤ r.ws.length := (forms_le e n).1 r
theorem le_pI (e : Nat × Nat) (n : Nat) (r : Rs) : (pI e n r).2.ws.length ≤ r.ws.length := (forms_le e n).2.2.1 r
theorem le_pO (e : Nat × Nat) (n : Nat) (r : Rs) : (pO e n r).2.ws.length ≤ r.ws.length := (forms_le e n).2.2.2.1 r
theorem le_pA (e : Nat × Nat) (n : Nat) (r : Rs) : (pA e n r).2.ws.length ≤ r.ws.length := (forms_le e n).2.2.2.2.2.1 r
theorem le_pU (e : Nat × Nat) (n : Nat) (r : Rs) : (pU e n r).2.ws.length ≤ r.ws.length := (forms_le e n).2.2.2.2.2.2.2.1 r
theorem le_pQ (e : Nat × Nat) (n : Nat) (op : Int) (r : Rs) : (pQ e n op r).2.ws.length ≤ r.ws.length := (forms_le e n).2.2.2.2.2.2.2.2 op r
theorem p_two (op : Int) (a b : FT) : Pure Tryd.prog 63 [.int .i64 op, .agg (fcl a), .agg (fcl b)] (.agg (fcl (twoF op a b))) := by
  rw [fcl_two]
  have ha := fcl_closed a
  have hb := fcl_closed b
  refine Pure.of_sw 12 Tryd.func63 rfl Tryd.ntmps63 (by kernel_rfl) (Nat.le_of_ble_eq_true (by kernel_rfl)) (by simp only [closeds, AV.closed]; exact ⟨trivial, ha, hb, trivial⟩) (by simp only [closeds, AV.closed]; exact ⟨trivial, trivial, trivial, trivial, closeds_iff.2 fun x h => (List.mem_append.1 h).elim (closeds_iff.1 ha x) (closeds_iff.1 hb x), trivial⟩) ?_
  refine SW.of_vc ?_
  repeat refine codeStep ?_
  iterate 4 refine opsStep ?_
  repeat refine codeStep ?_
  iterate 3 refine opsStep ?_
  refine opsFrz ?_
  refine optX_of (c := fcl a ++ fcl b) (by kernel_rfl) ?_
  repeat first | refine opsStep ?_ | refine codeStep ?_ | refine drawStep ?_
  exact finE_of (by kernel_rfl)
theorem p_rel (s : Str) : Pure Tryd.prog 144 [.str s] (.int .i64 (relO s)) := by
  unfold relO
  refine Pure.of_sw 16 Tryd.func144 rfl Tryd.ntmps144 (by kernel_rfl) (Nat.le_of_ble_eq_true (by kernel_rfl)) (by simp [closeds, AV.closed, aSs_closed, aIs_closed, aBs_closed, aRs_closed, aDen_closed]) (by simp [AV.closed, closeds, aSs_closed, aIs_closed, aBs_closed, aRs_closed, aDen_closed]) ?_; refine SW.of_vc ?_
  repeat first | refine opsStep ?_ | refine codeStep ?_ | refine drawStep ?_
  refine decB_dec (fun h1 => ?_) (fun h1 => ?_)
  · have h1 : s = [60, 61] := h1
    repeat first | refine opsStep ?_ | refine codeStep ?_ | refine drawStep ?_
    exact finV (v' := .int .i64 9) (by kernel_rfl) (by rw [if_pos h1])
  have h1 : s ≠ [60, 61] := h1
  repeat first | refine opsStep ?_ | refine codeStep ?_ | refine drawStep ?_
  refine decB_dec (fun h2 => ?_) (fun h2 => ?_)
  · have h2 : s = [60] := h2
    repeat first | refine opsStep ?_ | refine codeStep ?_ | refine drawStep ?_
    exact finV (v' := .int .i64 10) (by kernel_rfl) (by rw [if_neg h1, if_pos h2])
  have h2 : s ≠ [60] := h2
  repeat first | refine opsStep ?_ | refine codeStep ?_ | refine drawStep ?_
  refine decB_dec (fun h3 => ?_) (fun h3 => ?_)
  · have h3 : s = [62, 61] := h3
    repeat first | refine opsStep ?_ | refine codeStep ?_ | refine drawStep ?_
    exact finV (v' := .int .i64 11) (by kernel_rfl) (by rw [if_neg h1, if_neg h2, if_pos h3])
  have h3 : s ≠ [62, 61] := h3
  repeat first | refine opsStep ?_ | refine codeStep ?_ | refine drawStep ?_
  refine decB_dec (fun h4 => ?_) (fun h4 => ?_)
  · have h4 : s = [62] := h4
    repeat first | refine opsStep ?_ | refine codeStep ?_ | refine drawStep ?_
    exact finV (v' := .int .i64 12) (by kernel_rfl) (by rw [if_neg h1, if_neg h2, if_neg h3, if_pos h4])
  have h4 : s ≠ [62] := h4
  repeat first | refine opsStep ?_ | refine codeStep ?_ | refine drawStep ?_
  refine decB_dec (fun h5 => ?_) (fun h5 => ?_)
  · have h5 : s = [61] := h5
    repeat first | refine opsStep ?_ | refine codeStep ?_ | refine drawStep ?_
    exact finV (v' := .int .i64 13) (by kernel_rfl) (by rw [if_neg h1, if_neg h2, if_neg h3, if_neg h4, if_pos h5])
  have h5 : s ≠ [61] := h5
  repeat first | refine opsStep ?_ | refine codeStep ?_ | refine drawStep ?_
  refine decB_dec (fun h6 => ?_) (fun h6 => ?_)
  · have h6 : s = [33, 61] := h6
    repeat first | refine opsStep ?_ | refine codeStep ?_ | refine drawStep ?_
    exact finV (v' := .int .i64 14) (by kernel_rfl) (by rw [if_neg h1, if_neg h2, if_neg h3, if_neg h4, if_neg h5, if_pos h6])
  have h6 : s ≠ [33, 61] := h6
  repeat first | refine opsStep ?_ | refine codeStep ?_ | refine drawStep ?_
  exact finV (v' := .int .i64 15) (by kernel_rfl) (by rw [if_neg h1, if_neg h2, if_neg h3, if_neg h4, if_neg h5, if_neg h6])

/-- In a drawn region: a reading call. -/
theorem w_formula (e : Nat × Nat) (n : Nat) (hP : ∀ r : Rs, 16 * r.ws.length + 7 ≤ n → FormC 61 [] e r (pI e n r)) (hPm : ∀ m, m < n → ∀ r : Rs, 16 * r.ws.length + 7 ≤ m → FormC 61 [] e r (pI e m r)) (r : Rs) (hn : 16 * r.ws.length + 8 ≤ n + 1) : FormC 40 [] e r (pF e (n + 1) r) := by
  refine FormC.of ?_
  rw [pF]
  have hf := hP r (by omega)
  have hle := le_pI e n r
  generalize pI e n r = x0 at *
  rcases x0 with ⟨t0, s0⟩
  simp only at hle hf ⊢
  have hn0 : 16 * s0.ws.length + 7 ≤ n := by omega
  clear hn hle
  generalize hfin : pFL e n (t0, s0) = fin at *
  refine ACall.of_sw 15 Tryd.func40 rfl Tryd.ntmps40 (by kernel_rfl) (Nat.le_of_ble_eq_true (by kernel_rfl)) ?_; refine SW.of_vc ?_
  repeat first | refine opsStep ?_ | refine codeStep ?_ | refine drawStep ?_
  refine callT (args := [.ref 0 0 0]) hf [.cells 0 zF] rfl rfl (by simp [bels, AV.bel, rdH]) (rdH_bel _ _ _) (rdH_bel _ _ _) (by simp only [AV.bel]; exact fcl_bel _ _) ?_
  repeat first | refine opsStep ?_ | refine codeStep ?_ | refine drawStep ?_
  refine loopE_of (ι := {x : (FT × Rs) × Nat // x.2 ≤ n ∧ pFL e x.2 x.1 = fin ∧ 16 * x.1.2.ws.length + 7 ≤ x.2}) (fun x => (fr [(0, .ref 0 0 0), (2, .ref 1 0 0), (3, .ref 2 0 0)], rdH e x.1.1.2 ++ [.cells 0 zF, .cells 0 (fcl x.1.1.1)])) (fun x => x.1.2)
    ⟨((t0, s0), n), Nat.le_refl _, hfin, hn0⟩ (Ent.fr' ⟨(by kernel_rfl), (by kernel_rfl), (by kernel_rfl), trivial⟩ (by kernel_rfl)) ?_
  rintro ⟨⟨⟨t, s⟩, m⟩, h0, h1, h2⟩
  simp only at h0 h1 h2
  obtain ⟨m, rfl⟩ : ∃ k, m = k + 1 := ⟨m - 1, by omega⟩
  have hk := rd_take e s [fIff] (by simp) (by simp [fIff])
  have hlt := @take_lt s [fIff] (by simp [fIff])
  rw [pFL] at h1
  simp only at h1
  generalize s.take [fIff] = k at *
  rcases k with ⟨kt, ks⟩
  simp only at hk hlt h1
  repeat refine codeStep ?_
  iterate 1 refine opsStep ?_
  refine opsFrz ?_
  iterate 1 refine opsStep ?_
  refine callT (args := [.ref 0 0 0, aSs .any [fIff]]) hk [.cells 0 zF, .cells 0 (fcl t), .fro 0 [.str fIff]] rfl rfl (by simp [bels, AV.bel, aSs, rdH]) (rdH_bel _ _ _) (rdH_bel _ _ _) (by simp [AV.bel, bels]) ?_
  repeat first | refine opsStep ?_ | refine codeStep ?_ | refine drawStep ?_
  refine decB_dec (fun hkt => ?_) (fun hkt => ?_)
  · have hkt : kt ≠ [] := hkt
    rw [if_pos hkt] at h1
    have hlt := hlt hkt
    have hf := hPm m (by omega) ks (by omega)
    have hle := le_pI e m ks
    generalize pI e m ks = y at *
    rcases y with ⟨u, s'⟩
    simp only at hf hle h1
    have htwo := p_two 6 t u
    repeat refine codeStep ?_
    refine SW.drawn rfl (by kernel_rfl) ?_
    iterate 2 refine drawStep ?_
    refine drawGot ?_
    refine gotCallW 0 hf rfl rfl (by kernel_rfl) (by kernel_rfl) (by kernel_rfl) (by simp [bels, AV.bel]) (rdC_bel _ _ _) (rdC_bel _ _ _) (by simp only [AV.closed]; exact fcl_closed _) ?_
    iterate 1 refine drawStep ?_
    refine .inl ⟨_, _, [], htwo, RdsN_refl _, .inr rfl, none_need, ?_⟩
    repeat first | refine opsStep ?_ | refine codeStep ?_ | refine drawStep ?_
    refine ⟨by kernel_rfl, ?_⟩
    repeat first | refine opsStep ?_ | refine codeStep ?_ | refine drawStep ?_
    exact ⟨⟨((twoF 6 t u, s'), m), by omega, h1, by show 16 * s'.ws.length + 7 ≤ m; omega⟩, Nat.lt_succ_self m, Ent.frD (X := [.fro 0 [.str fIff]]) ⟨(by kernel_rfl), (by kernel_rfl), (by kernel_rfl), trivial⟩ (by kernel_rfl) (by show 1 ≤ 3; decide) (by simp [frBel, AV.bel, rdH]) (rdX_bel _ _ ⟨zF_bel _, fcl_bel _ _, trivial⟩)⟩
  · have hkt : kt = [] := Decidable.of_not_not hkt
    rw [if_neg (by simp [hkt])] at h1
    subst h1
    repeat first | refine opsStep ?_ | refine codeStep ?_ | refine drawStep ?_
    exact finC [.cells 0 (fcl t), .cells 0 (fcl t), .fro 0 [.str fIff]] (v' := .agg (fcl t)) (by kernel_rfl) rfl (by kernel_rfl)
theorem w_or (e : Nat × Nat) (n : Nat) (hP : ∀ r : Rs, 16 * r.ws.length + 5 ≤ n → FormC 120 [] e r (pA e n r)) (hPm : ∀ m, m < n → ∀ r : Rs, 16 * r.ws.length + 5 ≤ m → FormC 120 [] e r (pA e m r)) (r : Rs) (hn : 16 * r.ws.length + 6 ≤ n + 1) : FormC 88 [] e r (pO e (n + 1) r) := by
  refine FormC.of ?_
  rw [pO]
  have hf := hP r (by omega)
  have hle := le_pA e n r
  generalize pA e n r = x0 at *
  rcases x0 with ⟨t0, s0⟩
  simp only at hle hf ⊢
  have hn0 : 16 * s0.ws.length + 5 ≤ n := by omega
  clear hn hle
  generalize hfin : pOL e n (t0, s0) = fin at *
  refine ACall.of_sw 15 Tryd.func88 rfl Tryd.ntmps88 (by kernel_rfl) (Nat.le_of_ble_eq_true (by kernel_rfl)) ?_; refine SW.of_vc ?_
  repeat first | refine opsStep ?_ | refine codeStep ?_ | refine drawStep ?_
  refine callT (args := [.ref 0 0 0]) hf [.cells 0 zF] rfl rfl (by simp [bels, AV.bel, rdH]) (rdH_bel _ _ _) (rdH_bel _ _ _) (by simp only [AV.bel]; exact fcl_bel _ _) ?_
  repeat first | refine opsStep ?_ | refine codeStep ?_ | refine drawStep ?_
  refine loopE_of (ι := {x : (FT × Rs) × Nat // x.2 ≤ n ∧ pOL e x.2 x.1 = fin ∧ 16 * x.1.2.ws.length + 5 ≤ x.2}) (fun x => (fr [(0, .ref 0 0 0), (2, .ref 1 0 0), (3, .ref 2 0 0)], rdH e x.1.1.2 ++ [.cells 0 zF, .cells 0 (fcl x.1.1.1)])) (fun x => x.1.2)
    ⟨((t0, s0), n), Nat.le_refl _, hfin, hn0⟩ (Ent.fr' ⟨(by kernel_rfl), (by kernel_rfl), (by kernel_rfl), trivial⟩ (by kernel_rfl)) ?_
  rintro ⟨⟨⟨t, s⟩, m⟩, h0, h1, h2⟩
  simp only at h0 h1 h2
  obtain ⟨m, rfl⟩ : ∃ k, m = k + 1 := ⟨m - 1, by omega⟩
  have hk := rd_take e s [fOr] (by simp) (by simp [fOr])
  have hlt := @take_lt s [fOr] (by simp [fOr])
  rw [pOL] at h1
  simp only at h1
  generalize s.take [fOr] = k at *
  rcases k with ⟨kt, ks⟩
  simp only at hk hlt h1
  repeat refine codeStep ?_
  iterate 1 refine opsStep ?_
  refine opsFrz ?_
  iterate 1 refine opsStep ?_
  refine callT (args := [.ref 0 0 0, aSs .any [fOr]]) hk [.cells 0 zF, .cells 0 (fcl t), .fro 0 [.str fOr]] rfl rfl (by simp [bels, AV.bel, aSs, rdH]) (rdH_bel _ _ _) (rdH_bel _ _ _) (by simp [AV.bel, bels]) ?_
  repeat first | refine opsStep ?_ | refine codeStep ?_ | refine drawStep ?_
  refine decB_dec (fun hkt => ?_) (fun hkt => ?_)
  · have hkt : kt ≠ [] := hkt
    rw [if_pos hkt] at h1
    have hlt := hlt hkt
    have hf := hPm m (by omega) ks (by omega)
    have hle := le_pA e m ks
    generalize pA e m ks = y at *
    rcases y with ⟨u, s'⟩
    simp only at hf hle h1
    have htwo := p_two 4 t u
    repeat refine codeStep ?_
    refine SW.drawn rfl (by kernel_rfl) ?_
    iterate 2 refine drawStep ?_
    refine drawGot ?_
    refine gotCallW 0 hf rfl rfl (by kernel_rfl) (by kernel_rfl) (by kernel_rfl) (by simp [bels, AV.bel]) (rdC_bel _ _ _) (rdC_bel _ _ _) (by simp only [AV.closed]; exact fcl_closed _) ?_
    iterate 1 refine drawStep ?_
    refine .inl ⟨_, _, [], htwo, RdsN_refl _, .inr rfl, none_need, ?_⟩
    repeat first | refine opsStep ?_ | refine codeStep ?_ | refine drawStep ?_
    refine ⟨by kernel_rfl, ?_⟩
    repeat first | refine opsStep ?_ | refine codeStep ?_ | refine drawStep ?_
    exact ⟨⟨((twoF 4 t u, s'), m), by omega, h1, by show 16 * s'.ws.length + 5 ≤ m; omega⟩, Nat.lt_succ_self m, Ent.frD (X := [.fro 0 [.str fOr]]) ⟨(by kernel_rfl), (by kernel_rfl), (by kernel_rfl), trivial⟩ (by kernel_rfl) (by show 1 ≤ 3; decide) (by simp [frBel, AV.bel, rdH]) (rdX_bel _ _ ⟨zF_bel _, fcl_bel _ _, trivial⟩)⟩
  · have hkt : kt = [] := Decidable.of_not_not hkt
    rw [if_neg (by simp [hkt])] at h1
    subst h1
    repeat first | refine opsStep ?_ | refine codeStep ?_ | refine drawStep ?_
    exact finC [.cells 0 (fcl t), .cells 0 (fcl t), .fro 0 [.str fOr]] (v' := .agg (fcl t)) (by kernel_rfl) rfl (by kernel_rfl)
theorem w_and (e : Nat × Nat) (n : Nat) (hP : ∀ r : Rs, 16 * r.ws.length + 4 ≤ n → FormC 136 [] e r (pU e n r)) (hPm : ∀ m, m < n → ∀ r : Rs, 16 * r.ws.length + 4 ≤ m → FormC 136 [] e r (pU e m r)) (r : Rs) (hn : 16 * r.ws.length + 5 ≤ n + 1) : FormC 120 [] e r (pA e (n + 1) r) := by
  refine FormC.of ?_
  rw [pA]
  have hf := hP r (by omega)
  have hle := le_pU e n r
  generalize pU e n r = x0 at *
  rcases x0 with ⟨t0, s0⟩
  simp only at hle hf ⊢
  have hn0 : 16 * s0.ws.length + 4 ≤ n := by omega
  clear hn hle
  generalize hfin : pAL e n (t0, s0) = fin at *
  refine ACall.of_sw 15 Tryd.func120 rfl Tryd.ntmps120 (by kernel_rfl) (Nat.le_of_ble_eq_true (by kernel_rfl)) ?_; refine SW.of_vc ?_
  repeat first | refine opsStep ?_ | refine codeStep ?_ | refine drawStep ?_
  refine callT (args := [.ref 0 0 0]) hf [.cells 0 zF] rfl rfl (by simp [bels, AV.bel, rdH]) (rdH_bel _ _ _) (rdH_bel _ _ _) (by simp only [AV.bel]; exact fcl_bel _ _) ?_
  repeat first | refine opsStep ?_ | refine codeStep ?_ | refine drawStep ?_
  refine loopE_of (ι := {x : (FT × Rs) × Nat // x.2 ≤ n ∧ pAL e x.2 x.1 = fin ∧ 16 * x.1.2.ws.length + 4 ≤ x.2}) (fun x => (fr [(0, .ref 0 0 0), (2, .ref 1 0 0), (3, .ref 2 0 0)], rdH e x.1.1.2 ++ [.cells 0 zF, .cells 0 (fcl x.1.1.1)])) (fun x => x.1.2)
    ⟨((t0, s0), n), Nat.le_refl _, hfin, hn0⟩ (Ent.fr' ⟨(by kernel_rfl), (by kernel_rfl), (by kernel_rfl), trivial⟩ (by kernel_rfl)) ?_
  rintro ⟨⟨⟨t, s⟩, m⟩, h0, h1, h2⟩
  simp only at h0 h1 h2
  obtain ⟨m, rfl⟩ : ∃ k, m = k + 1 := ⟨m - 1, by omega⟩
  have hk := rd_take e s [fAnd] (by simp) (by simp [fAnd])
  have hlt := @take_lt s [fAnd] (by simp [fAnd])
  rw [pAL] at h1
  simp only at h1
  generalize s.take [fAnd] = k at *
  rcases k with ⟨kt, ks⟩
  simp only at hk hlt h1
  repeat refine codeStep ?_
  iterate 1 refine opsStep ?_
  refine opsFrz ?_
  iterate 1 refine opsStep ?_
  refine callT (args := [.ref 0 0 0, aSs .any [fAnd]]) hk [.cells 0 zF, .cells 0 (fcl t), .fro 0 [.str fAnd]] rfl rfl (by simp [bels, AV.bel, aSs, rdH]) (rdH_bel _ _ _) (rdH_bel _ _ _) (by simp [AV.bel, bels]) ?_
  repeat first | refine opsStep ?_ | refine codeStep ?_ | refine drawStep ?_
  refine decB_dec (fun hkt => ?_) (fun hkt => ?_)
  · have hkt : kt ≠ [] := hkt
    rw [if_pos hkt] at h1
    have hlt := hlt hkt
    have hf := hPm m (by omega) ks (by omega)
    have hle := le_pU e m ks
    generalize pU e m ks = y at *
    rcases y with ⟨u, s'⟩
    simp only at hf hle h1
    have htwo := p_two 3 t u
    repeat refine codeStep ?_
    refine SW.drawn rfl (by kernel_rfl) ?_
    iterate 2 refine drawStep ?_
    refine drawGot ?_
    refine gotCallW 0 hf rfl rfl (by kernel_rfl) (by kernel_rfl) (by kernel_rfl) (by simp [bels, AV.bel]) (rdC_bel _ _ _) (rdC_bel _ _ _) (by simp only [AV.closed]; exact fcl_closed _) ?_
    iterate 1 refine drawStep ?_
    refine .inl ⟨_, _, [], htwo, RdsN_refl _, .inr rfl, none_need, ?_⟩
    repeat first | refine opsStep ?_ | refine codeStep ?_ | refine drawStep ?_
    refine ⟨by kernel_rfl, ?_⟩
    repeat first | refine opsStep ?_ | refine codeStep ?_ | refine drawStep ?_
    exact ⟨⟨((twoF 3 t u, s'), m), by omega, h1, by show 16 * s'.ws.length + 4 ≤ m; omega⟩, Nat.lt_succ_self m, Ent.frD (X := [.fro 0 [.str fAnd]]) ⟨(by kernel_rfl), (by kernel_rfl), (by kernel_rfl), trivial⟩ (by kernel_rfl) (by show 1 ≤ 3; decide) (by simp [frBel, AV.bel, rdH]) (rdX_bel _ _ ⟨zF_bel _, fcl_bel _ _, trivial⟩)⟩
  · have hkt : kt = [] := Decidable.of_not_not hkt
    rw [if_neg (by simp [hkt])] at h1
    subst h1
    repeat first | refine opsStep ?_ | refine codeStep ?_ | refine drawStep ?_
    exact finC [.cells 0 (fcl t), .cells 0 (fcl t), .fro 0 [.str fAnd]] (v' := .agg (fcl t)) (by kernel_rfl) rfl (by kernel_rfl)


theorem w_implies (e : Nat × Nat) (n : Nat) (hP : ∀ r : Rs, 16 * r.ws.length + 6 ≤ n → FormC 88 [] e r (pO e n r)) (hI : ∀ r : Rs, 16 * r.ws.length + 7 ≤ n → FormC 61 [] e r (pI e n r)) (r : Rs) (hn : 16 * r.ws.length + 7 ≤ n + 1) : FormC 61 [] e r (pI e (n + 1) r) := by
  refine FormC.of ?_
  rw [pI]
  have hf := hP r (by omega)
  have hle := le_pO e n r
  generalize pO e n r = x0 at *
  rcases x0 with ⟨t, s⟩
  simp only at hle hf ⊢
  have hk := rd_take e s [fImp] (by simp) (by simp [fImp])
  have hlt := @take_lt s [fImp] (by simp [fImp])
  generalize s.take [fImp] = k at *
  rcases k with ⟨kt, ks⟩
  simp only at hk hlt ⊢
  generalize hfin : (if kt ≠ [] then (twoF 5 t (pI e n ks).1, (pI e n ks).2) else (t, ks)) = fin
  refine ACall.of_sw 15 Tryd.func61 rfl Tryd.ntmps61 (by kernel_rfl) (Nat.le_of_ble_eq_true (by kernel_rfl)) ?_; refine SW.of_vc ?_
  repeat first | refine opsStep ?_ | refine codeStep ?_ | refine drawStep ?_
  refine callT (args := [.ref 0 0 0]) hf [.cells 0 zF] rfl rfl (by simp [bels, AV.bel, rdH]) (rdH_bel _ _ _) (rdH_bel _ _ _) (by simp only [AV.bel]; exact fcl_bel _ _) ?_
  iterate 3 refine opsStep ?_
  repeat refine codeStep ?_
  iterate 1 refine opsStep ?_
  refine opsFrz ?_
  iterate 1 refine opsStep ?_
  refine callT (args := [.ref 0 0 0, aSs .any [fImp]]) hk [.cells 0 zF, .cells 0 (fcl t), .fro 0 [.str fImp]] rfl rfl (by simp [bels, AV.bel, aSs, rdH]) (rdH_bel _ _ _) (rdH_bel _ _ _) (by simp [AV.bel, bels]) ?_
  repeat first | refine opsStep ?_ | refine codeStep ?_ | refine drawStep ?_
  refine decB_dec (fun hkt => ?_) (fun hkt => ?_)
  · have hkt : kt ≠ [] := hkt
    rw [if_pos hkt] at hfin
    have hlt := hlt hkt
    have hf := hI ks (by omega)
    generalize pI e n ks = y at *
    rcases y with ⟨u, s'⟩
    simp only at hf hfin
    subst hfin
    have htwo := p_two 5 t u
    repeat refine codeStep ?_
    refine SW.drawn rfl (by kernel_rfl) ?_
    iterate 2 refine drawStep ?_
    refine drawGot ?_
    refine gotCallW 0 hf rfl rfl (by kernel_rfl) (by kernel_rfl) (by kernel_rfl) (by simp [bels, AV.bel]) (rdC_bel _ _ _) (rdC_bel _ _ _) (by simp only [AV.closed]; exact fcl_closed _) ?_
    iterate 1 refine drawStep ?_
    refine .inl ⟨_, _, [], htwo, RdsN_refl _, .inr rfl, none_need, ?_⟩
    repeat first | refine opsStep ?_ | refine codeStep ?_ | refine drawStep ?_
    refine ⟨by kernel_rfl, ?_⟩
    repeat first | refine opsStep ?_ | refine codeStep ?_ | refine drawStep ?_
    exact finC [.cells 0 (fcl (twoF 5 t u)), .cells 0 (fcl t), .fro 0 [.str fImp]] (v' := .agg (fcl (twoF 5 t u))) (by kernel_rfl) rfl (by kernel_rfl)
  · have hkt : kt = [] := Decidable.of_not_not hkt
    rw [if_neg (by simp [hkt])] at hfin
    subst hfin
    repeat first | refine opsStep ?_ | refine codeStep ?_ | refine drawStep ?_
    exact finC [.cells 0 (fcl t), .cells 0 (fcl t), .fro 0 [.str fImp]] (v' := .agg (fcl t)) (by kernel_rfl) rfl (by kernel_rfl)

theorem w_quantified (e : Nat × Nat) (n : Nat) (hU : ∀ r : Rs, 16 * r.ws.length + 4 ≤ n → FormC 136 [] e r (pU e n r)) (hQ : ∀ op, ∀ r : Rs, 16 * r.ws.length + 5 ≤ n → FormC 140 [.int .i64 op] e r (pQ e n op r)) (op : Int) (r : Rs) (hn : 16 * r.ws.length + 5 ≤ n + 1) : FormC 140 [.int .i64 op] e r (pQ e (n + 1) op r) := by
  refine FormC.of ?_
  rw [pQ]
  have hw := rd_word e r 0
  have hwl := word_le e r 0
  generalize r.word e 0 = x0 at *
  rcases x0 with ⟨w, s⟩
  simp only at hw hwl ⊢
  have hk := rd_take e s [fComma] (by simp) (by simp [fComma])
  have hlt := @take_lt s [fComma] (by simp [fComma])
  have hkl := take_le s [fComma]
  generalize s.take [fComma] = k at *
  rcases k with ⟨kt, ks⟩
  simp only at hk hlt hkl ⊢
  generalize hfin : (if kt ≠ [] then (oneF op w.text (pQ e n op ks).1, (pQ e n op ks).2) else (oneF op w.text (pU e n (ks.need e fDot)).1, (pU e n (ks.need e fDot)).2)) = fin
  refine ACall.of_sw 28 Tryd.func140 rfl Tryd.ntmps140 (by kernel_rfl) (Nat.le_of_ble_eq_true (by kernel_rfl)) ?_; refine SW.of_vc ?_
  repeat first | refine opsStep ?_ | refine codeStep ?_ | refine drawStep ?_
  refine callT (args := [.ref 0 0 0, .int .i64 0]) hw [.cells 0 zF] rfl rfl (by simp [bels, AV.bel, rdH]) (rdH_bel _ _ _) (rdH_bel _ _ _) (by simp only [AV.bel]; exact closeds_bel _ (wdC_closed _)) ?_
  iterate 5 refine opsStep ?_
  repeat refine codeStep ?_
  iterate 1 refine opsStep ?_
  refine opsFrz ?_
  iterate 1 refine opsStep ?_
  refine callT (args := [.ref 0 0 0, aSs .any [fComma]]) hk [.cells 0 zF, .cells 0 [.int .i64 op, .str w.text, .int .i64 0, .sl .nil 0 [], .sl .nil 0 []], .fro 0 [.str fComma]] rfl rfl (by simp [bels, AV.bel, aSs, rdH]) (rdH_bel _ _ _) (rdH_bel _ _ _) (by simp [AV.bel, bels]) ?_
  repeat first | refine opsStep ?_ | refine codeStep ?_ | refine drawStep ?_
  refine decB_dec (fun hkt => ?_) (fun hkt => ?_)
  · have hkt : kt ≠ [] := hkt
    rw [if_pos hkt] at hfin
    have hlt := hlt hkt
    have hf := hQ op ks (by omega)
    generalize pQ e n op ks = y at *
    rcases y with ⟨u, s'⟩
    simp only at hf hfin
    subst hfin
    repeat refine codeStep ?_
    iterate 3 refine opsStep ?_
    refine callT (args := [.ref 0 0 0, .int .i64 op]) hf [.cells 0 zF, .cells 0 [.int .i64 op, .str w.text, .int .i64 0, .sl .nil 0 [], .sl .nil 0 []], .fro 0 [.str fComma]] rfl rfl (by simp [bels, AV.bel, rdH]) (rdH_bel _ _ _) (rdH_bel _ _ _) (by simp only [AV.bel]; exact fcl_bel _ _) ?_
    refine opsFrz ?_
    repeat first | refine opsStep ?_ | refine codeStep ?_ | refine drawStep ?_
    exact finC [.cells 0 [.int .i64 op, .str w.text, .int .i64 0, .sl .nil 0 [], .sl .any 1 (fcl u)], .cells 0 [.int .i64 op, .str w.text, .int .i64 0, .sl .nil 0 [], .sl .any 1 (fcl u)], .fro 0 [.str fComma], .fro 0 (fcl u)] (v' := .agg [.int .i64 op, .str w.text, .int .i64 0, .sl .nil 0 [], .sl .any 1 (fcl u)]) (by kernel_rfl) (by rw [fcl_one]) (by kernel_rfl)
  · have hkt : kt = [] := Decidable.of_not_not hkt
    rw [if_neg (by simp [hkt])] at hfin
    have hnd := rd_need e ks fDot (by simp [fDot])
    have hnl := need_le e ks fDot
    generalize ks.need e fDot = nd at *
    have hf := hU nd (by omega)
    generalize pU e n nd = y at *
    rcases y with ⟨u, s'⟩
    simp only at hf hfin
    subst hfin
    repeat first | refine opsStep ?_ | refine codeStep ?_ | refine drawStep ?_
    refine callT (args := [.ref 0 0 0, .str fDot]) hnd [.cells 0 zF, .cells 0 [.int .i64 op, .str w.text, .int .i64 0, .sl .nil 0 [], .sl .nil 0 []], .fro 0 [.str fComma]] rfl rfl (by simp [bels, AV.bel, rdH]) (rdH_bel _ _ _) (rdH_bel _ _ _) (by simp [AV.bel, bels]) ?_
    iterate 1 refine opsStep ?_
    repeat refine codeStep ?_
    iterate 2 refine opsStep ?_
    refine callT (args := [.ref 0 0 0]) hf [.cells 0 zF, .cells 0 [.int .i64 op, .str w.text, .int .i64 0, .sl .nil 0 [], .sl .nil 0 []], .fro 0 [.str fComma]] rfl rfl (by simp [bels, AV.bel, rdH]) (rdH_bel _ _ _) (rdH_bel _ _ _) (by simp only [AV.bel]; exact fcl_bel _ _) ?_
    refine opsFrz ?_
    repeat first | refine opsStep ?_ | refine codeStep ?_ | refine drawStep ?_
    exact finC [.cells 0 [.int .i64 op, .str w.text, .int .i64 0, .sl .nil 0 [], .sl .any 1 (fcl u)], .cells 0 [.int .i64 op, .str w.text, .int .i64 0, .sl .nil 0 [], .sl .any 1 (fcl u)], .fro 0 [.str fComma], .fro 0 (fcl u)] (v' := .agg [.int .i64 op, .str w.text, .int .i64 0, .sl .nil 0 [], .sl .any 1 (fcl u)]) (by kernel_rfl) (by rw [fcl_one]) (by kernel_rfl)

end Tab

/- The reader of formulas: atoms, and all of it. -/
namespace Tab
open Go Go.Proofs
set_option maxRecDepth 10000
set_option linter.unusedVariables false
set_option linter.unusedSimpArgs false
set_option linter.unusedSectionVars false
set_option maxHeartbeats 1000000

theorem w_unary (e : Nat × Nat) (n : Nat) (hA : ∀ r : Rs, 16 * r.ws.length + 3 ≤ n → FormC 141 [] e r (pAt e n r)) (hF : ∀ r : Rs, 16 * r.ws.length + 8 ≤ n → FormC 40 [] e r (pF e n r)) (hU : ∀ r : Rs, 16 * r.ws.length + 4 ≤ n → FormC 136 [] e r (pU e n r))
    (hQ : ∀ op, ∀ r : Rs, 16 * r.ws.length + 5 ≤ n → FormC 140 [.int .i64 op] e r (pQ e n op r)) (r : Rs) (hn : 16 * r.ws.length + 4 ≤ n + 1) : FormC 136 [] e r (pU e (n + 1) r) := by
  refine FormC.of ?_
  rw [pU]
  have h0 : [] ∉ unL := by simp [unL, fNot, fEx, fAll, fOpen, fTrue, fFalse]
  have hk := rd_take e r unL (by simp [unL]) h0
  have hlt := @take_lt r unL h0
  have hkl := take_le r unL
  generalize r.take unL = k at *
  rcases k with ⟨kt, ks⟩
  simp only at hk hlt hkl ⊢
  generalize hfin : (if kt = fNot then (oneF 2 [] (pU e n ks).1, (pU e n ks).2) else if kt = fEx then pQ e n 7 ks else if kt = fAll then pQ e n 8 ks else if kt = fOpen then ((pF e n ks).1, (pF e n ks).2.need e fClose) else if kt = fTrue then (nilF 0, ks) else if kt = fFalse then (nilF 1, ks) else pAt e n ks) = fin
  refine ACall.of_sw 36 Tryd.func136 rfl Tryd.ntmps136 (by kernel_rfl) (Nat.le_of_ble_eq_true (by kernel_rfl)) ?_; refine SW.of_vc ?_
  repeat refine codeStep ?_
  iterate 2 refine opsStep ?_
  repeat refine codeStep ?_
  iterate 1 refine opsStep ?_
  refine opsFrz ?_
  refine optX_of (c := unL.map AV.str) (by kernel_rfl) ?_
  iterate 1 refine opsStep ?_
  refine callT (args := [.ref 0 0 0, aSs .any unL]) hk [.cells 0 zF, .fro 0 (unL.map .str)] rfl rfl (by simp only [bels, AV.bel]; exact ⟨by show 0 < 1; decide, aSs_bel _ _ _, trivial⟩) (rdH_bel _ _ _) (rdH_bel _ _ _) (by simp [AV.bel, bels]) ?_
  repeat first | refine opsStep ?_ | refine codeStep ?_ | refine drawStep ?_
  refine decB_dec (fun h1 => ?_) (fun h1 => ?_)
  · have h1 : kt = fNot := h1
    rw [if_pos h1] at hfin
    have hlt := hlt (by rw [h1]; simp [fNot])
    have hf := hU ks (by omega)
    generalize pU e n ks = y at *
    rcases y with ⟨u, s⟩
    simp only at hfin hf
    subst hfin
    repeat refine codeStep ?_
    iterate 2 refine opsStep ?_
    refine callT (args := [.ref 0 0 0]) hf [.cells 0 zF, .fro 0 (unL.map .str)] rfl rfl (by simp [bels, AV.bel, rdH]) (rdH_bel _ _ _) (rdH_bel _ _ _) (by simp only [AV.bel]; exact fcl_bel _ _) ?_
    refine opsFrz ?_
    repeat first | refine opsStep ?_ | refine codeStep ?_ | refine drawStep ?_
    exact finC [.cells 0 [.int .i64 2, .str [], .int .i64 0, .sl .nil 0 [], .sl .any 1 (fcl u)], .fro 0 (unL.map .str), .fro 0 (fcl u)] (v' := .agg [.int .i64 2, .str [], .int .i64 0, .sl .nil 0 [], .sl .any 1 (fcl u)]) (by kernel_rfl) (by rw [fcl_one]) (by kernel_rfl)
  have h1 : kt ≠ fNot := h1
  rw [if_neg h1] at hfin
  repeat first | refine opsStep ?_ | refine codeStep ?_ | refine drawStep ?_
  refine decB_dec (fun h2 => ?_) (fun h2 => ?_)
  · have h2 : kt = fEx := h2
    rw [if_pos h2] at hfin
    have hlt := hlt (by rw [h2]; simp [fEx])
    have hf := hQ 7 ks (by omega)
    generalize pQ e n 7 ks = y at *
    rcases y with ⟨u, s⟩
    subst hfin
    repeat first | refine opsStep ?_ | refine codeStep ?_ | refine drawStep ?_
    refine callT (args := [.ref 0 0 0, .int .i64 7]) hf [.cells 0 zF, .fro 0 (unL.map .str)] rfl rfl (by simp [bels, AV.bel, rdH]) (rdH_bel _ _ _) (rdH_bel _ _ _) (by simp only [AV.bel]; exact fcl_bel _ _) ?_
    repeat first | refine opsStep ?_ | refine codeStep ?_ | refine drawStep ?_
    exact finC [.cells 0 (fcl u), .fro 0 (unL.map .str)] (v' := .agg (fcl u)) (by kernel_rfl) rfl (by kernel_rfl)
  have h2 : kt ≠ fEx := h2
  rw [if_neg h2] at hfin
  repeat first | refine opsStep ?_ | refine codeStep ?_ | refine drawStep ?_
  refine decB_dec (fun h3 => ?_) (fun h3 => ?_)
  · have h3 : kt = fAll := h3
    rw [if_pos h3] at hfin
    have hlt := hlt (by rw [h3]; simp [fAll])
    have hf := hQ 8 ks (by omega)
    generalize pQ e n 8 ks = y at *
    rcases y with ⟨u, s⟩
    subst hfin
    repeat first | refine opsStep ?_ | refine codeStep ?_ | refine drawStep ?_
    refine callT (args := [.ref 0 0 0, .int .i64 8]) hf [.cells 0 zF, .fro 0 (unL.map .str)] rfl rfl (by simp [bels, AV.bel, rdH]) (rdH_bel _ _ _) (rdH_bel _ _ _) (by simp only [AV.bel]; exact fcl_bel _ _) ?_
    repeat first | refine opsStep ?_ | refine codeStep ?_ | refine drawStep ?_
    exact finC [.cells 0 (fcl u), .fro 0 (unL.map .str)] (v' := .agg (fcl u)) (by kernel_rfl) rfl (by kernel_rfl)
  have h3 : kt ≠ fAll := h3
  rw [if_neg h3] at hfin
  repeat first | refine opsStep ?_ | refine codeStep ?_ | refine drawStep ?_
  refine decB_dec (fun h4 => ?_) (fun h4 => ?_)
  · have h4 : kt = fOpen := h4
    rw [if_pos h4] at hfin
    have hlt := hlt (by rw [h4]; simp [fOpen])
    have hf := hF ks (by omega)
    generalize pF e n ks = y at *
    rcases y with ⟨u, s⟩
    simp only at hfin hf
    have hnd := rd_need e s fClose (by simp [fClose])
    subst hfin
    repeat first | refine opsStep ?_ | refine codeStep ?_ | refine drawStep ?_
    refine callT (args := [.ref 0 0 0]) hf [.cells 0 zF, .fro 0 (unL.map .str)] rfl rfl (by simp [bels, AV.bel, rdH]) (rdH_bel _ _ _) (rdH_bel _ _ _) (by simp only [AV.bel]; exact fcl_bel _ _) ?_
    repeat first | refine opsStep ?_ | refine codeStep ?_ | refine drawStep ?_
    refine callT (args := [.ref 0 0 0, .str fClose]) hnd [.cells 0 zF, .fro 0 (unL.map .str), .cells 0 (fcl u)] rfl rfl (by simp [bels, AV.bel, rdH]) (rdH_bel _ _ _) (rdH_bel _ _ _) (by simp [AV.bel, bels]) ?_
    repeat first | refine opsStep ?_ | refine codeStep ?_ | refine drawStep ?_
    exact finC [.cells 0 (fcl u), .fro 0 (unL.map .str), .cells 0 (fcl u)] (v' := .agg (fcl u)) (by kernel_rfl) rfl (by kernel_rfl)
  have h4 : kt ≠ fOpen := h4
  rw [if_neg h4] at hfin
  repeat first | refine opsStep ?_ | refine codeStep ?_ | refine drawStep ?_
  refine decB_dec (fun h5 => ?_) (fun h5 => ?_)
  · have h5 : kt = fTrue := h5
    rw [if_pos h5] at hfin
    subst hfin
    repeat first | refine opsStep ?_ | refine codeStep ?_ | refine drawStep ?_
    exact finC [.cells 0 zF, .fro 0 (unL.map .str)] (v' := .agg zF) (by kernel_rfl) rfl (by kernel_rfl)
  have h5 : kt ≠ fTrue := h5
  rw [if_neg h5] at hfin
  repeat first | refine opsStep ?_ | refine codeStep ?_ | refine drawStep ?_
  refine decB_dec (fun h6 => ?_) (fun h6 => ?_)
  · have h6 : kt = fFalse := h6
    rw [if_pos h6] at hfin
    subst hfin
    repeat first | refine opsStep ?_ | refine codeStep ?_ | refine drawStep ?_
    exact finC [.cells 0 (fcl (nilF 1)), .fro 0 (unL.map .str)] (v' := .agg (fcl (nilF 1))) (by kernel_rfl) rfl (by kernel_rfl)
  have h6 : kt ≠ fFalse := h6
  rw [if_neg h6] at hfin
  have hf := hA ks (by omega)
  generalize pAt e n ks = y at *
  rcases y with ⟨u, s⟩
  subst hfin
  repeat first | refine opsStep ?_ | refine codeStep ?_ | refine drawStep ?_
  refine callT (args := [.ref 0 0 0]) hf [.cells 0 zF, .fro 0 (unL.map .str)] rfl rfl (by simp [bels, AV.bel, rdH]) (rdH_bel _ _ _) (rdH_bel _ _ _) (by simp only [AV.bel]; exact fcl_bel _ _) ?_
  repeat first | refine opsStep ?_ | refine codeStep ?_ | refine drawStep ?_
  exact finC [.cells 0 (fcl u), .fro 0 (unL.map .str)] (v' := .agg (fcl u)) (by kernel_rfl) rfl (by kernel_rfl)


set_option maxHeartbeats 3000000 in
theorem w_atom (e : Nat × Nat) (n : Nat) (hT : ∀ r : Rs, 16 * r.ws.length + 3 ≤ n → TermC 48 e r (pT e n r)) (r : Rs) (hn : 16 * r.ws.length + 3 ≤ n) : FormC 141 [] e r (pAt e n r) := by
  refine FormC.of ?_
  unfold pAt
  have h0 : [] ∉ relL := by simp [relL]
  have ha := hT r hn
  have hal := (terms_le e n).1 r
  generalize pT e n r = x at *
  rcases x with ⟨a, s⟩
  simp only at ha hal ⊢
  have hk := rd_take e s relL (by simp [relL]) h0
  have hkl := take_le s relL
  generalize s.take relL = k at *
  rcases k with ⟨kt, ks⟩
  simp only at hk hkl ⊢
  have hwr := rd_wrong e ks 71
  have hr1 : (if kt = [] then ks.wrong e 71 else ks).ws.length ≤ r.ws.length := by
    split
    · rw [wrong_ws]; omega
    · omega
  generalize hr1e : (if kt = [] then ks.wrong e 71 else ks) = r1 at *
  have hb := hT r1 (by omega)
  generalize pT e n r1 = x at *
  rcases x with ⟨b, s2⟩
  simp only at hb ⊢
  have hrel := p_rel kt
  generalize hro : relO kt = ro at *
  generalize hfin : (if ro = 15 then ((.mk 15 [] (modS e s2).1 .any [a, b] .nil [] : FT), (modS e s2).2) else (.mk ro [] 0 .any [a, b] .nil [], s2)) = fin
  refine ACall.of_sw 65 Tryd.func141 rfl Tryd.ntmps141 (by kernel_rfl) (Nat.le_of_ble_eq_true (by kernel_rfl)) ?_; refine SW.of_vc ?_
  repeat first | refine opsStep ?_ | refine codeStep ?_ | refine drawStep ?_
  refine callT (args := [.ref 0 0 0]) ha [.cells 0 zF] rfl rfl (by simp [bels, AV.bel, rdH]) (rdH_bel _ _ _) (rdH_bel _ _ _) (by simp only [AV.bel]; exact tcl_bel _ _) ?_
  iterate 3 refine opsStep ?_
  repeat refine codeStep ?_
  iterate 1 refine opsStep ?_
  refine opsFrz ?_
  refine optX_of (c := relL.map AV.str) (by kernel_rfl) ?_
  iterate 1 refine opsStep ?_
  refine callT (args := [.ref 0 0 0, aSs .any relL]) hk [.cells 0 zF, .cells 0 (tcl a), .fro 0 (relL.map .str)] rfl rfl (by simp only [bels, AV.bel]; exact ⟨by show 0 < 1; decide, aSs_bel _ _ _, trivial⟩) (rdH_bel _ _ _) (rdH_bel _ _ _) (by simp [AV.bel, bels]) ?_
  iterate 2 refine opsStep ?_
  repeat refine codeStep ?_
  iterate 3 refine opsStep ?_
  refine VCode.join (b := decide (kt = [])) (fr [(0, .ref 0 0 0), (2, .ref 1 0 0), (3, .ref 2 0 0), (4, .str kt)]) (rdH e r1 ++ [.cells 0 zF, .cells 0 (tcl a), .fro 0 (relL.map .str)]) (by kernel_rfl) (fun hz => ?_) (fun hz => ?_) (fun s₁ H₁ he => VCode.ent he ?_)
  · have hz : kt = [] := of_decide_eq_true hz
    rw [if_pos hz] at hr1e
    subst hr1e
    repeat first | refine opsStep ?_ | refine codeStep ?_ | refine drawStep ?_
    refine callT (args := [.ref 0 0 0, .int .i64 71]) hwr [.cells 0 zF, .cells 0 (tcl a), .fro 0 (relL.map .str)] rfl rfl (by simp [bels, AV.bel, rdH]) (rdH_bel _ _ _) (rdH_bel _ _ _) (by simp [AV.bel, bels]) ?_
    repeat first | refine opsStep ?_ | refine codeStep ?_ | refine drawStep ?_
    exact Ent.fr' ⟨(by kernel_rfl), (by kernel_rfl), (by kernel_rfl), (by kernel_rfl), trivial⟩ (by kernel_rfl)
  · have hz : ¬ kt = [] := of_decide_eq_false hz
    rw [if_neg hz] at hr1e
    subst hr1e
    repeat first | refine opsStep ?_ | refine codeStep ?_ | refine drawStep ?_
    exact Ent.fr' ⟨(by kernel_rfl), (by kernel_rfl), (by kernel_rfl), (by kernel_rfl), trivial⟩ (by kernel_rfl)
  repeat refine codeStep ?_
  refine SW.drawn rfl (by kernel_rfl) ?_
  iterate 2 refine drawStep ?_
  refine .inl ⟨_, _, [], hrel, RdsN_refl _, .inr rfl, none_need, ?_⟩
  iterate 2 refine drawStep ?_
  refine drawGot ?_
  refine gotCallW 0 hb rfl rfl (by kernel_rfl) (by kernel_rfl) (by kernel_rfl) (by simp [bels, AV.bel]) (rdC_bel _ _ _) (rdC_bel _ _ _) (by simp only [AV.closed]; exact tcl_closed _) ?_
  refine drawFrzN ?_
  refine optX_of (c := tcl a ++ tcl b) (by kernel_rfl) ?_
  repeat first | refine opsStep ?_ | refine codeStep ?_ | refine drawStep ?_
  refine ⟨by kernel_rfl, ?_⟩
  refine VCode.ent (Ent.fr' (l := [(0, .ref 0 0 0), (2, .ref 1 0 0), (5, .ref 5 0 0)]) (H' := rdH e s2 ++ [.cells 0 zF, .cells 0 (tcl a), .fro 0 (relL.map .str), .fro 0 (tcl a ++ tcl b), .cells 0 [.int .i64 ro, .str [], .int .i64 0, .sl .any 2 (tcl a ++ tcl b), .sl .nil 0 []]]) ⟨(by kernel_rfl), (by kernel_rfl), (by kernel_rfl), trivial⟩ (by kernel_rfl)) ?_
  repeat first | refine opsStep ?_ | refine codeStep ?_ | refine drawStep ?_
  refine decB_dec (fun h15 => ?_) (fun h15 => ?_)
  · have h15 : ro = 15 := h15
    rw [if_pos h15] at hfin
    have hnd := rd_need e s2 fMod (by simp [fMod])
    have hM : ∀ r2 : Rs, (if (s2.need e fMod).fl.why = 0 ∧ (s2.need e fMod).ws ≠ [] ∧ (s2.need e fMod).hd.kind = 1 ∧ (s2.need e fMod).hd.num = 0 then (s2.need e fMod).wrong e 92 else s2.need e fMod) = r2 → fin = (.mk 15 [] (r2.word e 1).1.num .any [a, b] .nil [], (r2.word e 1).2) := fun r2 h => by
      rw [← hfin]
      unfold modS
      simp only [h]
    clear hfin
    generalize s2.need e fMod = nd at *
    have hbd := rd_bad e nd
    have hwr2 := rd_wrong e nd 92
    rcases nd with ⟨ws, fl⟩
    repeat first | refine opsStep ?_ | refine codeStep ?_ | refine drawStep ?_
    refine callT (args := [.ref 0 0 0, .str fMod]) hnd [.cells 0 zF, .cells 0 (tcl a), .fro 0 (relL.map .str), .fro 0 (tcl a ++ tcl b), .cells 0 [.int .i64 ro, .str [], .int .i64 0, .sl .any 2 (tcl a ++ tcl b), .sl .nil 0 []]] rfl rfl (by simp [bels, AV.bel, rdH]) (rdH_bel _ _ _) (rdH_bel _ _ _) (by simp [AV.bel, bels]) ?_
    repeat first | refine opsStep ?_ | refine codeStep ?_ | refine drawStep ?_
    cases ws with
    | nil =>
      have hM := hM _ (if_neg fun h => h.2.1 rfl)
      refine callT (args := [.ref 0 0 0]) hbd [.cells 0 zF, .cells 0 (tcl a), .fro 0 (relL.map .str), .fro 0 (tcl a ++ tcl b), .cells 0 [.int .i64 ro, .str [], .int .i64 0, .sl .any 2 (tcl a ++ tcl b), .sl .nil 0 []]] rfl rfl (by simp [bels, AV.bel, rdH]) (rdH_bel _ _ _) (rdH_bel _ _ _) (by simp [AV.bel, bels]) ?_
      repeat first | refine opsStep ?_ | refine codeStep ?_ | refine drawStep ?_
      refine decB_split (fun hb => ?_) (fun hb => ?_)
      · repeat first | refine opsStep ?_ | refine codeStep ?_ | refine drawStep ?_
        have hw1 := rd_word e (⟨[], fl⟩ : Rs) 1
        have hm := hM
        generalize Rs.word e (⟨[], fl⟩ : Rs) 1 = w at hw1 hm
        refine callT (args := [.ref 0 0 0, .int .i64 1]) hw1 [.cells 0 zF, .cells 0 (tcl a), .fro 0 (relL.map .str), .fro 0 (tcl a ++ tcl b), .cells 0 [.int .i64 ro, .str [], .int .i64 0, .sl .any 2 (tcl a ++ tcl b), .sl .nil 0 []]] rfl rfl (by simp [bels, AV.bel, rdH]) (rdH_bel _ _ _) (rdH_bel _ _ _) (by simp only [AV.bel]; exact closeds_bel _ (wdC_closed _)) ?_
        repeat first | refine opsStep ?_ | refine codeStep ?_ | refine drawStep ?_
        exact finC [.cells 0 [.int .i64 ro, .str [], .int .i64 w.1.num, .sl .any 2 (tcl a ++ tcl b), .sl .nil 0 []], .cells 0 (tcl a), .fro 0 (relL.map .str), .fro 0 (tcl a ++ tcl b), .cells 0 [.int .i64 ro, .str [], .int .i64 w.1.num, .sl .any 2 (tcl a ++ tcl b), .sl .nil 0 []]] (v' := .agg [.int .i64 ro, .str [], .int .i64 w.1.num, .sl .any 2 (tcl a ++ tcl b), .sl .nil 0 []]) (by kernel_rfl) (by rw [hm, h15, fcl_atom]) (by rw [hm]; rfl)
      · repeat first | refine opsStep ?_ | refine codeStep ?_ | refine drawStep ?_
        have hw1 := rd_word e (⟨[], fl⟩ : Rs) 1
        have hm := hM
        generalize Rs.word e (⟨[], fl⟩ : Rs) 1 = w at hw1 hm
        refine callT (args := [.ref 0 0 0, .int .i64 1]) hw1 [.cells 0 zF, .cells 0 (tcl a), .fro 0 (relL.map .str), .fro 0 (tcl a ++ tcl b), .cells 0 [.int .i64 ro, .str [], .int .i64 0, .sl .any 2 (tcl a ++ tcl b), .sl .nil 0 []]] rfl rfl (by simp [bels, AV.bel, rdH]) (rdH_bel _ _ _) (rdH_bel _ _ _) (by simp only [AV.bel]; exact closeds_bel _ (wdC_closed _)) ?_
        repeat first | refine opsStep ?_ | refine codeStep ?_ | refine drawStep ?_
        exact finC [.cells 0 [.int .i64 ro, .str [], .int .i64 w.1.num, .sl .any 2 (tcl a ++ tcl b), .sl .nil 0 []], .cells 0 (tcl a), .fro 0 (relL.map .str), .fro 0 (tcl a ++ tcl b), .cells 0 [.int .i64 ro, .str [], .int .i64 w.1.num, .sl .any 2 (tcl a ++ tcl b), .sl .nil 0 []]] (v' := .agg [.int .i64 ro, .str [], .int .i64 w.1.num, .sl .any 2 (tcl a ++ tcl b), .sl .nil 0 []]) (by kernel_rfl) (by rw [hm, h15, fcl_atom]) (by rw [hm]; rfl)
    | cons w l =>
      refine callT (args := [.ref 0 0 0]) hbd [.cells 0 zF, .cells 0 (tcl a), .fro 0 (relL.map .str), .fro 0 (tcl a ++ tcl b), .cells 0 [.int .i64 ro, .str [], .int .i64 0, .sl .any 2 (tcl a ++ tcl b), .sl .nil 0 []]] rfl rfl (by simp [bels, AV.bel, rdH]) (rdH_bel _ _ _) (rdH_bel _ _ _) (by simp [AV.bel, bels]) ?_
      repeat first | refine opsStep ?_ | refine codeStep ?_ | refine drawStep ?_
      refine decB_split (fun hb => ?_) (fun hb => ?_)
      rotate_left
      · have hb : fl.why ≠ 0 := by simpa using hb
        have hM := hM _ (if_neg fun h => hb h.1)
        repeat first | refine opsStep ?_ | refine codeStep ?_ | refine drawStep ?_
        have hw1 := rd_word e (⟨w :: l, fl⟩ : Rs) 1
        have hm := hM
        generalize Rs.word e (⟨w :: l, fl⟩ : Rs) 1 = w at hw1 hm
        refine callT (args := [.ref 0 0 0, .int .i64 1]) hw1 [.cells 0 zF, .cells 0 (tcl a), .fro 0 (relL.map .str), .fro 0 (tcl a ++ tcl b), .cells 0 [.int .i64 ro, .str [], .int .i64 0, .sl .any 2 (tcl a ++ tcl b), .sl .nil 0 []]] rfl rfl (by simp [bels, AV.bel, rdH]) (rdH_bel _ _ _) (rdH_bel _ _ _) (by simp only [AV.bel]; exact closeds_bel _ (wdC_closed _)) ?_
        repeat first | refine opsStep ?_ | refine codeStep ?_ | refine drawStep ?_
        exact finC [.cells 0 [.int .i64 ro, .str [], .int .i64 w.1.num, .sl .any 2 (tcl a ++ tcl b), .sl .nil 0 []], .cells 0 (tcl a), .fro 0 (relL.map .str), .fro 0 (tcl a ++ tcl b), .cells 0 [.int .i64 ro, .str [], .int .i64 w.1.num, .sl .any 2 (tcl a ++ tcl b), .sl .nil 0 []]] (v' := .agg [.int .i64 ro, .str [], .int .i64 w.1.num, .sl .any 2 (tcl a ++ tcl b), .sl .nil 0 []]) (by kernel_rfl) (by rw [hm, h15, fcl_atom]) (by rw [hm]; rfl)
      · have hb : fl.why = 0 := by simpa using hb
        repeat first | refine opsStep ?_ | refine codeStep ?_ | refine drawStep ?_
        refine decB_true (b := decide (((l.length + 1 : Nat) : Int) > 0)) (by simp) ?_
        repeat first | refine opsStep ?_ | refine codeStep ?_ | refine drawStep ?_
        refine guardE_of ⟨by decide, by show (0 : Int) < ((l.length + 1 : Nat) : Int); omega⟩ ?_
        repeat first | refine opsStep ?_ | refine codeStep ?_ | refine drawStep ?_
        refine decB_dec (fun hk1 => ?_) (fun hk1 => ?_)
        · have hk1 : w.kind = 1 := hk1
          repeat first | refine opsStep ?_ | refine codeStep ?_ | refine drawStep ?_
          refine guardE_of ⟨by decide, by show (0 : Int) < ((l.length + 1 : Nat) : Int); omega⟩ ?_
          repeat first | refine opsStep ?_ | refine codeStep ?_ | refine drawStep ?_
          refine decB_dec (fun hn0 => ?_) (fun hn0 => ?_)
          · have hn0 : w.num = 0 := by have : (w.num : Int) = 0 := hn0; omega
            have hM := hM _ (if_pos ⟨hb, by simp, hk1, hn0⟩)
            repeat first | refine opsStep ?_ | refine codeStep ?_ | refine drawStep ?_
            refine callT (args := [.ref 0 0 0, .int .i64 92]) hwr2 [.cells 0 zF, .cells 0 (tcl a), .fro 0 (relL.map .str), .fro 0 (tcl a ++ tcl b), .cells 0 [.int .i64 ro, .str [], .int .i64 0, .sl .any 2 (tcl a ++ tcl b), .sl .nil 0 []]] rfl rfl (by simp [bels, AV.bel, rdH]) (rdH_bel _ _ _) (rdH_bel _ _ _) (by simp [AV.bel, bels]) ?_
            repeat first | refine opsStep ?_ | refine codeStep ?_ | refine drawStep ?_
            generalize Rs.wrong e ⟨w :: l, fl⟩ 92 = r2 at *
            have hw1 := rd_word e r2 1
            have hm := hM
            generalize Rs.word e r2 1 = w at hw1 hm
            refine callT (args := [.ref 0 0 0, .int .i64 1]) hw1 [.cells 0 zF, .cells 0 (tcl a), .fro 0 (relL.map .str), .fro 0 (tcl a ++ tcl b), .cells 0 [.int .i64 ro, .str [], .int .i64 0, .sl .any 2 (tcl a ++ tcl b), .sl .nil 0 []]] rfl rfl (by simp [bels, AV.bel, rdH]) (rdH_bel _ _ _) (rdH_bel _ _ _) (by simp only [AV.bel]; exact closeds_bel _ (wdC_closed _)) ?_
            repeat first | refine opsStep ?_ | refine codeStep ?_ | refine drawStep ?_
            exact finC [.cells 0 [.int .i64 ro, .str [], .int .i64 w.1.num, .sl .any 2 (tcl a ++ tcl b), .sl .nil 0 []], .cells 0 (tcl a), .fro 0 (relL.map .str), .fro 0 (tcl a ++ tcl b), .cells 0 [.int .i64 ro, .str [], .int .i64 w.1.num, .sl .any 2 (tcl a ++ tcl b), .sl .nil 0 []]] (v' := .agg [.int .i64 ro, .str [], .int .i64 w.1.num, .sl .any 2 (tcl a ++ tcl b), .sl .nil 0 []]) (by kernel_rfl) (by rw [hm, h15, fcl_atom]) (by rw [hm]; rfl)
          · have hn0 : w.num ≠ 0 := by have : ¬ (w.num : Int) = 0 := hn0; omega
            have hM := hM _ (if_neg fun h => hn0 h.2.2.2)
            repeat first | refine opsStep ?_ | refine codeStep ?_ | refine drawStep ?_
            have hw1 := rd_word e (⟨w :: l, fl⟩ : Rs) 1
            have hm := hM
            generalize Rs.word e (⟨w :: l, fl⟩ : Rs) 1 = w at hw1 hm
            refine callT (args := [.ref 0 0 0, .int .i64 1]) hw1 [.cells 0 zF, .cells 0 (tcl a), .fro 0 (relL.map .str), .fro 0 (tcl a ++ tcl b), .cells 0 [.int .i64 ro, .str [], .int .i64 0, .sl .any 2 (tcl a ++ tcl b), .sl .nil 0 []]] rfl rfl (by simp [bels, AV.bel, rdH]) (rdH_bel _ _ _) (rdH_bel _ _ _) (by simp only [AV.bel]; exact closeds_bel _ (wdC_closed _)) ?_
            repeat first | refine opsStep ?_ | refine codeStep ?_ | refine drawStep ?_
            exact finC [.cells 0 [.int .i64 ro, .str [], .int .i64 w.1.num, .sl .any 2 (tcl a ++ tcl b), .sl .nil 0 []], .cells 0 (tcl a), .fro 0 (relL.map .str), .fro 0 (tcl a ++ tcl b), .cells 0 [.int .i64 ro, .str [], .int .i64 w.1.num, .sl .any 2 (tcl a ++ tcl b), .sl .nil 0 []]] (v' := .agg [.int .i64 ro, .str [], .int .i64 w.1.num, .sl .any 2 (tcl a ++ tcl b), .sl .nil 0 []]) (by kernel_rfl) (by rw [hm, h15, fcl_atom]) (by rw [hm]; rfl)
        · have hk1 : w.kind ≠ 1 := hk1
          have hM := hM _ (if_neg fun h => hk1 h.2.2.1)
          repeat first | refine opsStep ?_ | refine codeStep ?_ | refine drawStep ?_
          have hw1 := rd_word e (⟨w :: l, fl⟩ : Rs) 1
          have hm := hM
          generalize Rs.word e (⟨w :: l, fl⟩ : Rs) 1 = w at hw1 hm
          refine callT (args := [.ref 0 0 0, .int .i64 1]) hw1 [.cells 0 zF, .cells 0 (tcl a), .fro 0 (relL.map .str), .fro 0 (tcl a ++ tcl b), .cells 0 [.int .i64 ro, .str [], .int .i64 0, .sl .any 2 (tcl a ++ tcl b), .sl .nil 0 []]] rfl rfl (by simp [bels, AV.bel, rdH]) (rdH_bel _ _ _) (rdH_bel _ _ _) (by simp only [AV.bel]; exact closeds_bel _ (wdC_closed _)) ?_
          repeat first | refine opsStep ?_ | refine codeStep ?_ | refine drawStep ?_
          exact finC [.cells 0 [.int .i64 ro, .str [], .int .i64 w.1.num, .sl .any 2 (tcl a ++ tcl b), .sl .nil 0 []], .cells 0 (tcl a), .fro 0 (relL.map .str), .fro 0 (tcl a ++ tcl b), .cells 0 [.int .i64 ro, .str [], .int .i64 w.1.num, .sl .any 2 (tcl a ++ tcl b), .sl .nil 0 []]] (v' := .agg [.int .i64 ro, .str [], .int .i64 w.1.num, .sl .any 2 (tcl a ++ tcl b), .sl .nil 0 []]) (by kernel_rfl) (by rw [hm, h15, fcl_atom]) (by rw [hm]; rfl)
  · have h15 : ro ≠ 15 := h15
    rw [if_neg h15] at hfin
    repeat first | refine opsStep ?_ | refine codeStep ?_ | refine drawStep ?_
    exact finC [.cells 0 [.int .i64 ro, .str [], .int .i64 0, .sl .any 2 (tcl a ++ tcl b), .sl .nil 0 []], .cells 0 (tcl a), .fro 0 (relL.map .str), .fro 0 (tcl a ++ tcl b), .cells 0 [.int .i64 ro, .str [], .int .i64 0, .sl .any 2 (tcl a ++ tcl b), .sl .nil 0 []]] (v' := .agg [.int .i64 ro, .str [], .int .i64 0, .sl .any 2 (tcl a ++ tcl b), .sl .nil 0 []]) (by kernel_rfl) (by rw [← hfin, fcl_atom]) (by rw [← hfin]; rfl)

end Tab

/- The reader of formulas and terms, all of it. -/
namespace Tab
open Go Go.Proofs
set_option maxRecDepth 10000
set_option linter.unusedVariables false
set_option linter.unusedSimpArgs false
set_option linter.unusedSectionVars false
set_option maxHeartbeats 1000000

theorem w_forms (e : Nat × Nat) : ∀ n, (∀ r : Rs, 16 * r.ws.length + 8 ≤ n → FormC 40 [] e r (pF e n r)) ∧ (∀ r : Rs, 16 * r.ws.length + 7 ≤ n → FormC 61 [] e r (pI e n r)) ∧ (∀ r : Rs, 16 * r.ws.length + 6 ≤ n → FormC 88 [] e r (pO e n r)) ∧
    (∀ r : Rs, 16 * r.ws.length + 5 ≤ n → FormC 120 [] e r (pA e n r)) ∧ (∀ r : Rs, 16 * r.ws.length + 4 ≤ n → FormC 136 [] e r (pU e n r)) ∧ (∀ op, ∀ r : Rs, 16 * r.ws.length + 5 ≤ n → FormC 140 [.int .i64 op] e r (pQ e n op r)) := by
  intro n
  induction n using Nat.strongRecOn with
  | _ n ih =>
    cases n with
    | zero => exact ⟨fun r h => by omega, fun r h => by omega, fun r h => by omega, fun r h => by omega, fun r h => by omega, fun _ r h => by omega⟩
    | succ n =>
      have hn := ih n (by omega)
      exact ⟨w_formula e n hn.2.1 (fun m hm => (ih m (by omega)).2.1), w_implies e n hn.2.2.1 hn.2.1, w_or e n hn.2.2.2.1 (fun m hm => (ih m (by omega)).2.2.2.1), w_and e n hn.2.2.2.2.1 (fun m hm => (ih m (by omega)).2.2.2.2.1),
        w_unary e n (fun r h => w_atom e n (w_terms e n).1 r h) hn.1 hn.2.2.2.2.1 hn.2.2.2.2.2, w_quantified e n hn.2.2.2.2.1 hn.2.2.2.2.2⟩

theorem rd_done (e : Nat × Nat) (r : Rs) : ACall Tryd.prog 41 [.ref 0 0 0] (rdH e r) fun o H' => o = .ret (.tup []) ∧ H' = rdH e (r.done e) := by
  have hw := rd_wrong e r 71
  unfold Rs.done
  rcases r with ⟨ws, fl⟩
  cases ws with
  | nil =>
    refine ACall.of_sw 10 Tryd.func41 rfl Tryd.ntmps41 (by kernel_rfl) (Nat.le_of_ble_eq_true (by kernel_rfl)) ?_; refine SW.of_vc ?_
    repeat first | refine opsStep ?_ | refine codeStep ?_ | refine drawStep ?_
    exact finR (l := []) (v := .tup []) (H₁ := rdH e ⟨[], fl⟩) trivial (by kernel_rfl) (Ent.refl _ _ _) (by kernel_rfl) ⟨rfl, rfl⟩
  | cons w l =>
    refine ACall.of_sw 10 Tryd.func41 rfl Tryd.ntmps41 (by kernel_rfl) (Nat.le_of_ble_eq_true (by kernel_rfl)) ?_; refine SW.of_vc ?_
    repeat first | refine opsStep ?_ | refine codeStep ?_ | refine drawStep ?_
    refine decB_true (b := decide (((l.length + 1 : Nat) : Int) > 0)) (by simp) ?_
    repeat first | refine opsStep ?_ | refine codeStep ?_ | refine drawStep ?_
    refine callT (args := [.ref 0 0 0, .int .i64 71]) hw [] rfl rfl (by simp [bels, AV.bel, rdH]) (rdH_bel _ _ _) (rdH_bel _ _ _) (by simp [AV.bel, bels]) ?_
    repeat first | refine opsStep ?_ | refine codeStep ?_ | refine drawStep ?_
    exact finR (l := []) (v := .tup []) (H₁ := rdH e (Rs.wrong e ⟨w :: l, fl⟩ 71)) trivial (by kernel_rfl) (Ent.refl _ _ _) (by kernel_rfl) ⟨rfl, rfl⟩

theorem p_open (s : Str) (hl : s.length < 2^62) : ACall Tryd.prog 39 [.str s] [] fun o H' => o = .ret (.ref 0 0 0) ∧ H' = rdH (endS s) (rs0 s) := by
  have hlx := lex_Words s hl
  have hrc := runeCount s hl
  have hE : rdH (endS s) (rs0 s) = [.cells 0 [aWs .any (lexS s).1, .int .i64 s.length, .int .i64 (chS s), .int .i64 (lexS s).2.why, .int .i64 (lexS s).2.at', .int .i64 (lexS s).2.ch]] := rfl
  rw [hE]
  generalize lexS s = x at *
  rcases x with ⟨W, F⟩
  simp only at hlx ⊢
  refine ACall.of_sw 19 Tryd.func39 rfl Tryd.ntmps39 (by kernel_rfl) (Nat.le_of_ble_eq_true (by kernel_rfl)) ?_; refine SW.of_vc ?_
  repeat first | refine opsStep ?_ | refine codeStep ?_ | refine drawStep ?_
  refine callP hlx ?_
  repeat first | refine opsStep ?_ | refine codeStep ?_ | refine drawStep ?_
  refine SW.drawn rfl (by kernel_rfl) ?_
  iterate 5 refine drawStep ?_
  refine .inl ⟨_, _, [], hrc, RdsN_refl _, .inr rfl, none_need, ?_⟩
  repeat first | refine opsStep ?_ | refine codeStep ?_ | refine drawStep ?_
  refine ⟨by kernel_rfl, ?_⟩
  repeat first | refine opsStep ?_ | refine codeStep ?_ | refine drawStep ?_
  refine ⟨fr [(2, .ref 0 0 0)], _, .ref 0 0 0, Ent.pick [1] (by decide) (by intro b hb; simp at hb; subst hb; show 1 < 2; decide) (fun b hb => absurd hb (Nat.not_lt_zero _)) _ _ rfl (frOk_rn ⟨(by kernel_rfl), trivial⟩) ?_ (by simp [frBel, AV.bel]) ?_, (by kernel_rfl), rfl, rfl⟩
  · intro i x b hi hb
    match i, hb with
    | 0, hb =>
      simp at hi hb
      subst hi hb
      have hc : closeds [aWs .any W, .int .i64 s.length, .int .i64 (chS s), .int .i64 F.why, .int .i64 F.at', .int .i64 F.ch] := by simp only [closeds, AV.closed]; exact ⟨aWs_closed _ _, trivial, trivial, trivial, trivial, trivial, trivial⟩
      show some (Blk.cells 0 [aWs .any W, .int .i64 s.length, .int .i64 (chS s), .int .i64 F.why, .int .i64 F.at', .int .i64 F.ch]) = some (Blk.cells 0 (rns _ _))
      rw [closeds_rn _ hc]
    | i + 1, hb => simp at hb
  · have hc : closeds [aWs .any W, .int .i64 s.length, .int .i64 (chS s), .int .i64 F.why, .int .i64 F.at', .int .i64 F.ch] := by simp only [closeds, AV.closed]; exact ⟨aWs_closed _ _, trivial, trivial, trivial, trivial, trivial, trivial⟩
    exact ⟨closeds_bel _ hc, trivial⟩


theorem rdC_closed (e : Nat × Nat) (r : Rs) : closeds (rdC e r) := by simp only [rdC, closeds, AV.closed]; exact ⟨aWs_closed _ _, trivial, trivial, trivial, trivial, trivial, trivial⟩
def zL : List AV := [.int .i64 0, .int .i64 0, .int .i64 0]
def setW (r : Rs) (y : Int) : Rs := ⟨r.ws, ⟨y, r.fl.at', r.fl.ch⟩⟩
theorem parse_Formula (s : Str) (hl : s.length < 2^62) : Pure Tryd.prog 20 [.str s] (.tup [.agg (fcl (parF s).1), .agg (fltC (parF s).2)]) := by
  have hop := p_open s hl
  have hrf := (w_forms (endS s) _).1 (rs0 s) (by show 16 * (rs0 s).ws.length + 8 ≤ 16 * (rs0 s).ws.length + 16; omega)
  have hok := readF_ok s
  have hchk := tree_Check (readF s).1 hok
  rw [FT.cells_eq] at hchk
  change Pure Tryd.prog 25 [.agg (fcl (readF s).1)] _ at hchk
  change FormC 40 [] (endS s) (rs0 s) (readF s) at hrf
  have hdn := rd_done (endS s) (readF s).2
  have hE : parF s = if ((readF s).2.done (endS s)).fl.why ≠ 0 then (nilF 0, ((readF s).2.done (endS s)).fl) else if chkF (readF s).1 ≠ 0 then (nilF 0, ⟨chkF (readF s).1, ((readF s).2.done (endS s)).fl.at', ((readF s).2.done (endS s)).fl.ch⟩) else ((readF s).1, ⟨0, ((readF s).2.done (endS s)).fl.at', ((readF s).2.done (endS s)).fl.ch⟩) := rfl
  generalize parF s = res at *
  generalize readF s = x at *
  rcases x with ⟨f, r⟩
  simp only at hrf hchk hdn hE
  generalize r.done (endS s) = r1 at *
  generalize chkF f = c at *
  clear hok
  refine Pure.of_sw 33 Tryd.func20 rfl Tryd.ntmps20 (by kernel_rfl) (Nat.le_of_ble_eq_true (by kernel_rfl)) (by simp only [closeds, AV.closed]; exact ⟨trivial, trivial⟩) (by simp only [AV.closed, closeds]; exact ⟨fcl_closed _, fltC_closed _, trivial⟩) ?_
  refine SW.of_vc ?_
  repeat first | refine opsStep ?_ | refine codeStep ?_ | refine drawStep ?_
  refine callS (args := [.str s]) (by simp [closeds, AV.closed]) hop (fun X h => by simp at h) (fun v X h => ?_)
  obtain ⟨h1, rfl⟩ := h
  cases h1
  iterate 2 refine opsStep ?_
  refine VCode.ent (Ent.fr' (l := [(2, .ref 0 0 0), (3, .ref 1 0 0), (4, .ref 2 0 0)]) (H' := [.cells 0 zF, .cells 0 zL, .cells 0 (rdC (endS s) (rs0 s))]) ⟨(by kernel_rfl), (by kernel_rfl), (by kernel_rfl), trivial⟩ (Eq.trans (b := [.cells 0 zF, .cells 0 zL, .cells 0 (shs 2 (rdC (endS s) (rs0 s)))]) (by kernel_rfl) (by rw [closeds_sh _ (rdC_closed _ _)]))) ?_
  refine VCode.ent (Ent.pick [2, 0, 1] (by decide) (by intro b hb; simp at hb; show b < 3; omega) (fun b hb => absurd hb (Nat.not_lt_zero _)) [(2, .ref 1 0 0), (3, .ref 2 0 0), (4, .ref 0 0 0)] (rdH (endS s) (rs0 s) ++ [.cells 0 zF, .cells 0 zL]) rfl (frOk_rn ⟨(by kernel_rfl), (by kernel_rfl), (by kernel_rfl), trivial⟩) ?_ (by simp [frBel, AV.bel]) (rdX_bel (X := [.cells 0 zF, .cells 0 zL]) _ _ ⟨zF_bel _, by simp [Blk.bel, zL, bels, AV.bel], trivial⟩)) ?_
  · intro zF_bel x b hi hb
    match zF_bel, hb with
    | 0, hb =>
      simp at hb
      subst hb
      have hi : Blk.cells 0 (rdC (endS s) (rs0 s)) = x := Option.some.inj hi
      subst hi
      show some (Blk.cells 0 (rdC (endS s) (rs0 s))) = some (Blk.cells 0 (rns _ _))
      rw [closeds_rn _ (rdC_closed _ _)]
    | 1, hb => simp at hb; subst hb; have hi := Option.some.inj hi; subst hi; exact rfl
    | 2, hb => simp at hb; subst hb; have hi := Option.some.inj hi; subst hi; exact rfl
    | zF_bel + 3, hb => simp at hb
  repeat first | refine opsStep ?_ | refine codeStep ?_ | refine drawStep ?_
  refine callT (args := [.ref 0 0 0]) hrf [.cells 0 zF, .cells 0 zL] rfl rfl (by simp [bels, AV.bel, rdH]) (rdH_bel _ _ _) (rdH_bel _ _ _) (by simp only [AV.bel]; exact fcl_bel _ _) ?_
  repeat first | refine opsStep ?_ | refine codeStep ?_ | refine drawStep ?_
  refine callT (args := [.ref 0 0 0]) hdn [.cells 0 zF, .cells 0 zL, .cells 0 (fcl f)] rfl rfl (by simp [bels, AV.bel, rdH]) (rdH_bel _ _ _) (rdH_bel _ _ _) (by simp [AV.bel, bels]) ?_
  repeat first | refine opsStep ?_ | refine codeStep ?_ | refine drawStep ?_
  refine callT (args := [.ref 0 0 0]) (rd_bad (endS s) r1) [.cells 0 zF, .cells 0 zL, .cells 0 (fcl f)] rfl rfl (by simp [bels, AV.bel, rdH]) (rdH_bel _ _ _) (rdH_bel _ _ _) (by simp [AV.bel, bels]) ?_
  repeat first | refine opsStep ?_ | refine codeStep ?_ | refine drawStep ?_
  refine decB_split (fun hb => ?_) (fun hb => ?_)
  rotate_left
  · have hb : r1.fl.why ≠ 0 := by simpa using hb
    rw [if_pos hb] at hE
    repeat first | refine opsStep ?_ | refine codeStep ?_ | refine drawStep ?_
    refine callT (args := [.ref 0 0 0]) (rd_bad (endS s) r1) [.cells 0 zF, .cells 0 zL, .cells 0 (fcl f)] rfl rfl (by simp [bels, AV.bel, rdH]) (rdH_bel _ _ _) (rdH_bel _ _ _) (by simp [AV.bel, bels]) ?_
    repeat first | refine opsStep ?_ | refine codeStep ?_ | refine drawStep ?_
    refine decB_true (b := decide (r1.fl.why ≠ 0)) (by simpa using hb) ?_
    repeat refine codeStep ?_
    refine SW.drawn rfl (by kernel_rfl) ?_
    repeat first | refine opsStep ?_ | refine codeStep ?_ | refine drawStep ?_
    refine ⟨by kernel_rfl, ?_⟩
    repeat first | refine opsStep ?_ | refine codeStep ?_ | refine drawStep ?_
    exact finV (v' := .tup [.agg zF, .agg (fltC r1.fl)]) (by kernel_rfl) (by rw [hE]; rfl)
  · have hb : r1.fl.why = 0 := by simpa using hb
    rw [if_neg (by simp [hb])] at hE
    repeat first | refine opsStep ?_ | refine codeStep ?_ | refine drawStep ?_
    refine callP hchk ?_
    repeat first | refine opsStep ?_ | refine codeStep ?_ | refine drawStep ?_
    refine callT (args := [.ref 0 0 0]) (rd_bad (endS s) (setW r1 c)) [.cells 0 zF, .cells 0 zL, .cells 0 (fcl f)] rfl rfl (by simp [bels, AV.bel, rdH]) (rdH_bel _ _ _) (rdH_bel _ _ _) (by simp [AV.bel, bels]) ?_
    repeat first | refine opsStep ?_ | refine codeStep ?_ | refine drawStep ?_
    refine decB_dec (fun hc => ?_) (fun hc => ?_)
    · have hc : c ≠ 0 := hc
      rw [if_pos hc] at hE
      repeat refine codeStep ?_
      refine SW.drawn rfl (by kernel_rfl) ?_
      repeat first | refine opsStep ?_ | refine codeStep ?_ | refine drawStep ?_
      refine ⟨by kernel_rfl, ?_⟩
      repeat first | refine opsStep ?_ | refine codeStep ?_ | refine drawStep ?_
      exact finV (v' := .tup [.agg zF, .agg (fltC ⟨c, r1.fl.at', r1.fl.ch⟩)]) (by kernel_rfl) (by rw [hE]; rfl)
    · have hc : c = 0 := Decidable.of_not_not hc
      rw [if_neg (by simp [hc])] at hE
      repeat refine codeStep ?_
      iterate 0 refine opsStep ?_
      repeat first | refine opsStep ?_ | refine codeStep ?_ | refine drawStep ?_
      refine SW.drawn rfl (by kernel_rfl) ?_
      repeat first | refine opsStep ?_ | refine codeStep ?_ | refine drawStep ?_
      refine ⟨by kernel_rfl, ?_⟩
      repeat first | refine opsStep ?_ | refine codeStep ?_ | refine drawStep ?_
      exact finV (v' := .tup [.agg (fcl f), .agg (fltC ⟨c, r1.fl.at', r1.fl.ch⟩)]) (by kernel_rfl) (by rw [hE, hc])

theorem parse_Term (s : Str) (hl : s.length < 2^62) : Pure Tryd.prog 27 [.str s] (.tup [.agg (tcl (parT s).1), .agg (fltC (parT s).2)]) := by
  have hop := p_open s hl
  have hrf := (w_terms (endS s) _).1 (rs0 s) (by show 16 * (rs0 s).ws.length + 3 ≤ 16 * (rs0 s).ws.length + 16; omega)
  have hok := readT_ok s
  have hchk := tree_CheckTerm (readT s).1 hok
  rw [TT.cells_eq] at hchk
  change Pure Tryd.prog 35 [.agg (tcl (readT s).1)] _ at hchk
  change TermC 48 (endS s) (rs0 s) (readT s) at hrf
  have hdn := rd_done (endS s) (readT s).2
  have hE : parT s = if ((readT s).2.done (endS s)).fl.why ≠ 0 then ((.mk 0 0 [] .nil [] : TT), ((readT s).2.done (endS s)).fl) else if chkT (readT s).1 ≠ 0 then ((.mk 0 0 [] .nil [] : TT), ⟨chkT (readT s).1, ((readT s).2.done (endS s)).fl.at', ((readT s).2.done (endS s)).fl.ch⟩) else ((readT s).1, ⟨0, ((readT s).2.done (endS s)).fl.at', ((readT s).2.done (endS s)).fl.ch⟩) := rfl
  generalize parT s = res at *
  generalize readT s = x at *
  rcases x with ⟨f, r⟩
  simp only at hrf hchk hdn hE
  generalize r.done (endS s) = r1 at *
  generalize chkT f = c at *
  clear hok
  refine Pure.of_sw 33 Tryd.func27 rfl Tryd.ntmps27 (by kernel_rfl) (Nat.le_of_ble_eq_true (by kernel_rfl)) (by simp only [closeds, AV.closed]; exact ⟨trivial, trivial⟩) (by simp only [AV.closed, closeds]; exact ⟨tcl_closed _, fltC_closed _, trivial⟩) ?_
  refine SW.of_vc ?_
  repeat first | refine opsStep ?_ | refine codeStep ?_ | refine drawStep ?_
  refine callS (args := [.str s]) (by simp [closeds, AV.closed]) hop (fun X h => by simp at h) (fun v X h => ?_)
  obtain ⟨h1, rfl⟩ := h
  cases h1
  iterate 2 refine opsStep ?_
  refine VCode.ent (Ent.fr' (l := [(2, .ref 0 0 0), (3, .ref 1 0 0), (4, .ref 2 0 0)]) (H' := [.cells 0 zT, .cells 0 zL, .cells 0 (rdC (endS s) (rs0 s))]) ⟨(by kernel_rfl), (by kernel_rfl), (by kernel_rfl), trivial⟩ (Eq.trans (b := [.cells 0 zT, .cells 0 zL, .cells 0 (shs 2 (rdC (endS s) (rs0 s)))]) (by kernel_rfl) (by rw [closeds_sh _ (rdC_closed _ _)]))) ?_
  refine VCode.ent (Ent.pick [2, 0, 1] (by decide) (by intro b hb; simp at hb; show b < 3; omega) (fun b hb => absurd hb (Nat.not_lt_zero _)) [(2, .ref 1 0 0), (3, .ref 2 0 0), (4, .ref 0 0 0)] (rdH (endS s) (rs0 s) ++ [.cells 0 zT, .cells 0 zL]) rfl (frOk_rn ⟨(by kernel_rfl), (by kernel_rfl), (by kernel_rfl), trivial⟩) ?_ (by simp [frBel, AV.bel]) (rdX_bel (X := [.cells 0 zT, .cells 0 zL]) _ _ ⟨zT_bel _, by simp [Blk.bel, zL, bels, AV.bel], trivial⟩)) ?_
  · intro zT_bel x b hi hb
    match zT_bel, hb with
    | 0, hb =>
      simp at hb
      subst hb
      have hi : Blk.cells 0 (rdC (endS s) (rs0 s)) = x := Option.some.inj hi
      subst hi
      show some (Blk.cells 0 (rdC (endS s) (rs0 s))) = some (Blk.cells 0 (rns _ _))
      rw [closeds_rn _ (rdC_closed _ _)]
    | 1, hb => simp at hb; subst hb; have hi := Option.some.inj hi; subst hi; exact rfl
    | 2, hb => simp at hb; subst hb; have hi := Option.some.inj hi; subst hi; exact rfl
    | zT_bel + 3, hb => simp at hb
  repeat first | refine opsStep ?_ | refine codeStep ?_ | refine drawStep ?_
  refine callT (args := [.ref 0 0 0]) hrf [.cells 0 zT, .cells 0 zL] rfl rfl (by simp [bels, AV.bel, rdH]) (rdH_bel _ _ _) (rdH_bel _ _ _) (by simp only [AV.bel]; exact tcl_bel _ _) ?_
  repeat first | refine opsStep ?_ | refine codeStep ?_ | refine drawStep ?_
  refine callT (args := [.ref 0 0 0]) hdn [.cells 0 zT, .cells 0 zL, .cells 0 (tcl f)] rfl rfl (by simp [bels, AV.bel, rdH]) (rdH_bel _ _ _) (rdH_bel _ _ _) (by simp [AV.bel, bels]) ?_
  repeat first | refine opsStep ?_ | refine codeStep ?_ | refine drawStep ?_
  refine callT (args := [.ref 0 0 0]) (rd_bad (endS s) r1) [.cells 0 zT, .cells 0 zL, .cells 0 (tcl f)] rfl rfl (by simp [bels, AV.bel, rdH]) (rdH_bel _ _ _) (rdH_bel _ _ _) (by simp [AV.bel, bels]) ?_
  repeat first | refine opsStep ?_ | refine codeStep ?_ | refine drawStep ?_
  refine decB_split (fun hb => ?_) (fun hb => ?_)
  rotate_left
  · have hb : r1.fl.why ≠ 0 := by simpa using hb
    rw [if_pos hb] at hE
    repeat first | refine opsStep ?_ | refine codeStep ?_ | refine drawStep ?_
    refine callT (args := [.ref 0 0 0]) (rd_bad (endS s) r1) [.cells 0 zT, .cells 0 zL, .cells 0 (tcl f)] rfl rfl (by simp [bels, AV.bel, rdH]) (rdH_bel _ _ _) (rdH_bel _ _ _) (by simp [AV.bel, bels]) ?_
    repeat first | refine opsStep ?_ | refine codeStep ?_ | refine drawStep ?_
    refine decB_true (b := decide (r1.fl.why ≠ 0)) (by simpa using hb) ?_
    repeat refine codeStep ?_
    refine SW.drawn rfl (by kernel_rfl) ?_
    repeat first | refine opsStep ?_ | refine codeStep ?_ | refine drawStep ?_
    refine ⟨by kernel_rfl, ?_⟩
    repeat first | refine opsStep ?_ | refine codeStep ?_ | refine drawStep ?_
    exact finV (v' := .tup [.agg zT, .agg (fltC r1.fl)]) (by kernel_rfl) (by rw [hE]; rfl)
  · have hb : r1.fl.why = 0 := by simpa using hb
    rw [if_neg (by simp [hb])] at hE
    repeat first | refine opsStep ?_ | refine codeStep ?_ | refine drawStep ?_
    refine callP hchk ?_
    repeat first | refine opsStep ?_ | refine codeStep ?_ | refine drawStep ?_
    refine callT (args := [.ref 0 0 0]) (rd_bad (endS s) (setW r1 c)) [.cells 0 zT, .cells 0 zL, .cells 0 (tcl f)] rfl rfl (by simp [bels, AV.bel, rdH]) (rdH_bel _ _ _) (rdH_bel _ _ _) (by simp [AV.bel, bels]) ?_
    repeat first | refine opsStep ?_ | refine codeStep ?_ | refine drawStep ?_
    refine decB_dec (fun hc => ?_) (fun hc => ?_)
    · have hc : c ≠ 0 := hc
      rw [if_pos hc] at hE
      repeat refine codeStep ?_
      refine SW.drawn rfl (by kernel_rfl) ?_
      repeat first | refine opsStep ?_ | refine codeStep ?_ | refine drawStep ?_
      refine ⟨by kernel_rfl, ?_⟩
      repeat first | refine opsStep ?_ | refine codeStep ?_ | refine drawStep ?_
      exact finV (v' := .tup [.agg zT, .agg (fltC ⟨c, r1.fl.at', r1.fl.ch⟩)]) (by kernel_rfl) (by rw [hE]; rfl)
    · have hc : c = 0 := Decidable.of_not_not hc
      rw [if_neg (by simp [hc])] at hE
      repeat refine codeStep ?_
      iterate 0 refine opsStep ?_
      repeat first | refine opsStep ?_ | refine codeStep ?_ | refine drawStep ?_
      refine SW.drawn rfl (by kernel_rfl) ?_
      repeat first | refine opsStep ?_ | refine codeStep ?_ | refine drawStep ?_
      refine ⟨by kernel_rfl, ?_⟩
      repeat first | refine opsStep ?_ | refine codeStep ?_ | refine drawStep ?_
      exact finV (v' := .tup [.agg (tcl f), .agg (fltC ⟨c, r1.fl.at', r1.fl.ch⟩)]) (by kernel_rfl) (by rw [hE, hc])

end Tab

/- The law ParseStops. -/
namespace Tab
open Go Go.Proofs
set_option maxRecDepth 10000
set_option linter.unusedVariables false
set_option linter.unusedSimpArgs false
set_option linter.unusedSectionVars false
set_option maxHeartbeats 1000000

/-! ### What a fault's numbers are -/
theorem lexS_okw (s : Str) : ∀ w ∈ (lexS s).1, okW w := fun w hw => ((lexS_ok s).wd w hw).1
theorem readF_fl (s : Str) : okJ (readF s).2.fl.why ∧ okJ (readF s).2.fl.at' ∧ okJ (readF s).2.fl.ch := by
  have hl := lexS_ok s
  by_cases hz : (lexS s).2.why = 0
  · have hp := readF_plc hz
    obtain ⟨c, hc⟩ := readF_suf s
    obtain ⟨hs, _, _⟩ := lexS_zero hz
    rcases hp with hp | ⟨h1, h2⟩
    · rw [hp]; exact ⟨by decide, by decide, by decide⟩
    · refine ⟨by rcases h1 with h | h <;> rw [h] <;> decide, ?_⟩
      cases hw : (readF s).2.ws with
      | nil =>
        rw [hw] at h2
        have e1 : (readF s).2.fl.at' = s.length := congrArg Prod.fst h2
        have e2 : (readF s).2.fl.ch = chS s := congrArg Prod.snd h2
        have := chS_le _ s rfl
        rw [e1, e2]
        exact ⟨⟨by omega, by omega⟩, ⟨by omega, by omega⟩⟩
      | cons w t =>
        rw [hw] at h2
        have e1 : (readF s).2.fl.at' = w.at' := congrArg Prod.fst h2
        have e2 : (readF s).2.fl.ch = w.ch := congrArg Prod.snd h2
        have := lexS_okw s w (by rw [hc, hw]; simp)
        rw [e1, e2]
        exact ⟨this.at', this.ch⟩
  · rw [readF_lex hz]
    have h1 := hl.at'
    have h2 := hl.ch
    exact ⟨hl.why, ⟨by omega, by omega⟩, ⟨by omega, by omega⟩⟩
theorem done_fl (s : Str) : okJ ((readF s).2.done (endS s)).fl.why ∧ okJ ((readF s).2.done (endS s)).fl.at' ∧ okJ ((readF s).2.done (endS s)).fl.ch := by
  have h := readF_fl s
  unfold Rs.done
  split
  · by_cases h0 : (readF s).2.fl.why = 0
    · rw [wrong_new h0]
      refine ⟨by show okJ 71; decide, ?_⟩
      obtain ⟨c, hc⟩ := readF_suf s
      cases hw : (readF s).2.ws with
      | nil => rename_i hne; exact absurd hw hne
      | cons w t =>
        have := lexS_okw s w (by rw [hc, hw]; simp)
        exact ⟨this.at', this.ch⟩
    · rw [wrong_bad h0]; exact h
  · exact h
theorem chk_j {e : Int} (h : okSize e) : okJ e := by rcases h with h | h | h <;> rw [h] <;> decide
theorem parF_fl (s : Str) : okJ (parF s).2.why ∧ okJ (parF s).2.at' ∧ okJ (parF s).2.ch := by
  by_cases h : ((readF s).2.done (endS s)).fl.why = 0
  · obtain ⟨h1, h2, h3, h4, h5, h6, h7⟩ := parF_size h
    have := readF_fl s
    rw [h3, h6, h7]
    exact ⟨chk_j h4, this.2.1, this.2.2⟩
  · rw [parF_bad h]; exact done_fl s
theorem parF_ok (s : Str) : (parF s).1.ok := by
  by_cases h : ((readF s).2.done (endS s)).fl.why = 0
  · obtain ⟨h1, h2, h3, h4, h5, h6, h7⟩ := parF_size h
    rw [h5]
    split
    · exact readF_ok s
    · exact (made_ok (0, 0)).nil 0 (by decide) (by decide)
  · rw [parF_bad h]; exact (made_ok (0, 0)).nil 0 (by decide) (by decide)
theorem parF_good {s : Str} (h : (parF s).2.why = 0) : chkF (parF s).1 = 0 ∧ (parF s).1 = (readF s).1 ∧ (readF s).2.fl.why = 0 ∧ (readF s).2.ws = [] := by
  by_cases hb : ((readF s).2.done (endS s)).fl.why = 0
  · obtain ⟨h1, h2, h3, h4, h5, h6, h7⟩ := parF_size hb
    rw [h3] at h
    rw [h5, if_pos h]
    exact ⟨h, rfl, h1, h2⟩
  · rw [parF_bad hb] at h; exact absurd h hb

/-! ### What the document fixes -/
def fx1 : Str := [120, 32, 60, 61, 32, 49]
def fx2 : Str := [120, 32, 61, 32, 61, 32, 49]
theorem fx_par1 : (parF fx1).2 = flt0 ∧ (parF fx1).1 = .mk 9 [] 0 .any [.mk 1 0 [120] .nil [], .mk 0 1 [] .nil []] .nil [] := by
  constructor
  · kernel_rfl
  · kernel_rfl
theorem fx_par2 : (parF fx2).2 = ⟨71, 4, 4⟩ ∧ (parF fx2).1 = nilF 0 := by
  constructor
  · kernel_rfl
  · kernel_rfl
theorem law7_fixed : Pure Tryd.prog 22 [] (.bool true) := by
  have h1 := parse_Formula fx1 (by decide)
  have h2 := parse_Formula fx2 (by decide)
  rw [fx_par1.1, fx_par1.2, fcl_atom] at h1
  rw [fx_par2.1, fx_par2.2] at h2
  refine Pure.of_sw 51 Tryd.func22 rfl Tryd.ntmps22 (by kernel_rfl) (Nat.le_of_ble_eq_true (by kernel_rfl)) (by simp [closeds, AV.closed, aSs_closed, aIs_closed, aBs_closed, aRs_closed, aDen_closed]) (by simp [AV.closed, closeds, aSs_closed, aIs_closed, aBs_closed, aRs_closed, aDen_closed]) ?_; refine SW.of_vc ?_
  repeat first | refine opsStep ?_ | refine codeStep ?_ | refine drawStep ?_
  refine callP h1 ?_
  repeat first | refine opsStep ?_ | refine codeStep ?_ | refine drawStep ?_
  refine callP h2 ?_
  repeat first | refine opsStep ?_ | refine codeStep ?_ | refine drawStep ?_
  refine ⟨true, eqlF (w := 0) (a := 0) (b := 0) (w' := 0) (c := 0) (d := 0) (by decide) (by decide) (by decide) (by decide) (by decide) (by decide), ?_⟩
  repeat first | refine opsStep ?_ | refine codeStep ?_ | refine drawStep ?_
  refine ⟨true, eqlF (w := 71) (a := 4) (b := 4) (w' := 71) (c := 4) (d := 4) (by decide) (by decide) (by decide) (by decide) (by decide) (by decide), ?_⟩
  repeat first | refine opsStep ?_ | refine codeStep ?_ | refine drawStep ?_
  exact finB (b' := true) (by kernel_rfl) rfl
theorem law7_great (F : Flt) : Pure Tryd.prog 26 [.agg (fltC F)] (.bool (decide (F.why = 70 ∨ F.why = 73 ∨ F.why = 72))) := by
  refine Pure.of_sw 16 Tryd.func26 rfl Tryd.ntmps26 (by kernel_rfl) (Nat.le_of_ble_eq_true (by kernel_rfl)) (by simp only [closeds, AV.closed]; exact ⟨fltC_closed _, trivial⟩) (by simp only [AV.closed]) ?_
  refine SW.of_vc ?_
  repeat first | refine opsStep ?_ | refine codeStep ?_ | refine drawStep ?_
  refine decB_dec (fun h1 => ?_) (fun h1 => ?_)
  · have h1 : F.why = 70 := h1
    repeat first | refine opsStep ?_ | refine codeStep ?_ | refine drawStep ?_
    exact finB (b' := true) (by kernel_rfl) (by simp [h1])
  have h1 : F.why ≠ 70 := h1
  repeat first | refine opsStep ?_ | refine codeStep ?_ | refine drawStep ?_
  refine decB_dec (fun h2 => ?_) (fun h2 => ?_)
  · have h2 : F.why = 73 := h2
    repeat first | refine opsStep ?_ | refine codeStep ?_ | refine drawStep ?_
    exact finB (b' := true) (by kernel_rfl) (by simp [h2])
  have h2 : F.why ≠ 73 := h2
  repeat first | refine opsStep ?_ | refine codeStep ?_ | refine drawStep ?_
  exact finB (b' := decide (F.why = 72)) (by kernel_rfl) (by simp [h1, h2])

end Tab

/- The law ParseStops, walked. -/
namespace Tab
open Go Go.Proofs
set_option maxRecDepth 10000
set_option linter.unusedVariables false
set_option linter.unusedSimpArgs false
set_option linter.unusedSectionVars false
set_option maxHeartbeats 1000000

/-- The text goes wrong elsewhere: nothing more is asked. -/
theorem stops_else (s more : Str) (f : FT) (F : Flt) (hs : s.length < 2 ^ 62) (h : F.why ≠ 71 ∨ s.length ≤ F.at') (hok : f.ok) (hc : F.why = 0 → chkF f = 0) (hA : Pure Tryd.prog 20 [.str s] (.tup [.agg (fcl f), .agg (fltC F)])) : Pure Tryd.prog 6 [.str s, .str more] (.bool true) := by
  have hchk := tree_Check f hok
  rw [FT.cells_eq] at hchk
  change Pure Tryd.prog 25 [.agg (fcl f)] _ at hchk
  generalize chkF f = c at *
  refine Pure.of_sw 114 Tryd.func6 rfl Tryd.ntmps6 (by kernel_rfl) (Nat.le_of_ble_eq_true (by kernel_rfl)) (by simp [closeds, AV.closed, aSs_closed, aIs_closed, aBs_closed, aRs_closed, aDen_closed]) (by simp [AV.closed, closeds, aSs_closed, aIs_closed, aBs_closed, aRs_closed, aDen_closed]) ?_; refine SW.of_vc ?_
  repeat first | refine opsStep ?_ | refine codeStep ?_ | refine drawStep ?_
  refine callP law7_fixed ?_
  repeat first | refine opsStep ?_ | refine codeStep ?_ | refine drawStep ?_
  refine callP hA ?_
  repeat first | refine opsStep ?_ | refine codeStep ?_ | refine drawStep ?_
  refine decB_dec (fun h1 => ?_) (fun h1 => ?_)
  · have h1 : F.why ≠ 71 := h1
    repeat first | refine opsStep ?_ | refine codeStep ?_ | refine drawStep ?_
    refine decB_dec (fun h0 => ?_) (fun h0 => ?_)
    · repeat first | refine opsStep ?_ | refine codeStep ?_ | refine drawStep ?_
      exact finB (b' := true) (by kernel_rfl) rfl
    · have h0 : F.why = 0 := Decidable.of_not_not h0
      have hc := hc h0
      repeat first | refine opsStep ?_ | refine codeStep ?_ | refine drawStep ?_
      refine callP hchk ?_
      repeat first | refine opsStep ?_ | refine codeStep ?_ | refine drawStep ?_
      exact finB (b' := decide (c = 0)) (by kernel_rfl) (by simp [hc])
  · have h1 : F.why = 71 := Decidable.of_not_not h1
    have h2 : s.length ≤ F.at' := h.resolve_left (fun k => k h1)
    repeat first | refine opsStep ?_ | refine codeStep ?_ | refine drawStep ?_
    refine decB_true (b := decide ((F.at' : Int) ≥ (s.length : Int))) (by simp; omega) ?_
    repeat first | refine opsStep ?_ | refine codeStep ?_ | refine drawStep ?_
    refine decB_true (b := decide (F.why ≠ 0)) (by simp [h1]) ?_
    repeat first | refine opsStep ?_ | refine codeStep ?_ | refine drawStep ?_
    exact finB (b' := true) (by kernel_rfl) rfl

theorem stops_71 (s more : Str) (f g v : FT) (k ch p q : Nat) (V : Flt) (hd : Str) (hs : s.length + more.length < 2 ^ 62) (hk : k < s.length) (hch : okJ ch) (hpk : p = k)
    (hA : Pure Tryd.prog 20 [.str s] (.tup [.agg (fcl f), .agg (fltC ⟨71, k, ch⟩)])) (hhd : (s.drop 0).take (((k : Nat) : Int).toNat - 0) = hd) (hlen : hd.length = k) (hB' : Pure Tryd.prog 20 [.str hd] (.tup [.agg (fcl g), .agg (fltC ⟨71, p, q⟩)]))
    (hC : Pure Tryd.prog 20 [.str (s ++ [32] ++ more)] (.tup [.agg (fcl v), .agg (fltC V)])) (hV : V = ⟨71, k, ch⟩ ∨ V.why = 6 ∨ V.why = 50 ∨ V.why = 51 ∨ V.why = 52 ∨ V.why = 70) : Pure Tryd.prog 6 [.str s, .str more] (.bool true) := by
  have hq : V = ⟨71, k, ch⟩ → EqlE Tryd.prog 44 [.int .i64 V.why, .int .i64 V.at', .int .i64 V.ch] [.int .i64 71, .int .i64 k, .int .i64 ch] true := fun e => by
    have := eqlF (w := 71) (a := k) (b := ch) (w' := 71) (c := k) (d := ch) (by decide) ⟨by omega, by omega⟩ hch (by decide) ⟨by omega, by omega⟩ hch
    rw [e]; simpa using this
  have hgr := law7_great ⟨71, p, q⟩
  have hB : Pure Tryd.prog 20 [.str ((s.drop 0).take (((k : Nat) : Int).toNat - 0))] (.tup [.agg (fcl g), .agg (fltC ⟨71, p, q⟩)]) := by rw [hhd]; exact hB'
  have hlen' : ((s.drop 0).take (((k : Nat) : Int).toNat - 0)).length = k := by rw [hhd]; exact hlen
  refine Pure.of_sw 114 Tryd.func6 rfl Tryd.ntmps6 (by kernel_rfl) (Nat.le_of_ble_eq_true (by kernel_rfl)) (by simp [closeds, AV.closed, aSs_closed, aIs_closed, aBs_closed, aRs_closed, aDen_closed]) (by simp [AV.closed, closeds, aSs_closed, aIs_closed, aBs_closed, aRs_closed, aDen_closed]) ?_; refine SW.of_vc ?_
  repeat first | refine opsStep ?_ | refine codeStep ?_ | refine drawStep ?_
  refine callP law7_fixed ?_
  repeat first | refine opsStep ?_ | refine codeStep ?_ | refine drawStep ?_
  refine callP hA ?_
  repeat first | refine opsStep ?_ | refine codeStep ?_ | refine drawStep ?_
  refine decB_false (b := decide ((k : Int) ≥ (s.length : Int))) (by simp; omega) ?_
  repeat first | refine opsStep ?_ | refine codeStep ?_ | refine drawStep ?_
  refine guardE_of (by show (0 : Int) ≤ 0 ∧ (0 : Int) ≤ (k : Int) ∧ (k : Int) ≤ (s.length : Int); omega) ?_
  repeat first | refine opsStep ?_ | refine codeStep ?_ | refine drawStep ?_
  refine callP hB ?_
  iterate 8 refine opsStep ?_
  refine VCode.ent (Ent.fr' (l := [(0, .str s), (1, .str more), (6, .ref 1 0 0), (7, .str ((s.drop 0).take (((k : Nat) : Int).toNat - 0))), (9, .ref 3 0 0)]) (H' := [.cells 0 (fcl f), .cells 0 (fltC ⟨71, k, ch⟩), .cells 0 (fcl g), .cells 0 (fltC ⟨71, p, q⟩)]) ⟨(by kernel_rfl), (by kernel_rfl), (by kernel_rfl), (by kernel_rfl), (by kernel_rfl), trivial⟩ (by kernel_rfl)) ?_
  repeat first | refine opsStep ?_ | refine codeStep ?_ | refine drawStep ?_
  refine decB_false (b := decide ((p : Int) ≠ (((s.drop 0).take (((k : Nat) : Int).toNat - 0)).length : Int))) (by rw [hlen', hpk]; simp) ?_
  repeat first | refine opsStep ?_ | refine codeStep ?_ | refine drawStep ?_
  refine guardE_of (by show s.length + 1 ≤ 9223372036854775807; omega) ?_
  repeat first | refine opsStep ?_ | refine codeStep ?_ | refine drawStep ?_
  refine guardE_of (by show (s ++ [32]).length + more.length ≤ 9223372036854775807; rw [List.length_append]; simp only [List.length_singleton]; omega) ?_
  repeat first | refine opsStep ?_ | refine codeStep ?_ | refine drawStep ?_
  refine callP hC ?_
  repeat first | refine opsStep ?_ | refine codeStep ?_ | refine drawStep ?_
  refine decB_dec (fun v1 => ?_) (fun v1 => ?_)
  · repeat first | refine opsStep ?_ | refine codeStep ?_ | refine drawStep ?_
    exact finB (b' := true) (by kernel_rfl) rfl
  repeat first | refine opsStep ?_ | refine codeStep ?_ | refine drawStep ?_
  refine decB_dec (fun v2 => ?_) (fun v2 => ?_)
  · repeat first | refine opsStep ?_ | refine codeStep ?_ | refine drawStep ?_
    exact finB (b' := true) (by kernel_rfl) rfl
  repeat first | refine opsStep ?_ | refine codeStep ?_ | refine drawStep ?_
  refine decB_dec (fun v3 => ?_) (fun v3 => ?_)
  · repeat first | refine opsStep ?_ | refine codeStep ?_ | refine drawStep ?_
    exact finB (b' := true) (by kernel_rfl) rfl
  repeat first | refine opsStep ?_ | refine codeStep ?_ | refine drawStep ?_
  refine decB_dec (fun v4 => ?_) (fun v4 => ?_)
  · repeat first | refine opsStep ?_ | refine codeStep ?_ | refine drawStep ?_
    exact finB (b' := true) (by kernel_rfl) rfl
  repeat first | refine opsStep ?_ | refine codeStep ?_ | refine drawStep ?_
  refine decB_dec (fun v5 => ?_) (fun v5 => ?_)
  · repeat first | refine opsStep ?_ | refine codeStep ?_ | refine drawStep ?_
    exact finB (b' := true) (by kernel_rfl) rfl
  have hV1 : V = ⟨71, k, ch⟩ := by
    rcases hV with h | h | h | h | h | h
    · exact h
    · exact absurd h v4
    · exact absurd h v1
    · exact absurd h v2
    · exact absurd h v3
    · exact absurd h v5
  repeat first | refine opsStep ?_ | refine codeStep ?_ | refine drawStep ?_
  refine ⟨true, hq hV1, ?_⟩
  repeat first | refine opsStep ?_ | refine codeStep ?_ | refine drawStep ?_
  exact finB (b' := true) (by kernel_rfl) rfl
theorem stops_0 (s more : Str) (f g v : FT) (k ch p q : Nat) (V : Flt) (hd : Str) (hs : s.length + more.length < 2 ^ 62) (hk : k < s.length) (hch : okJ ch) 
    (hA : Pure Tryd.prog 20 [.str s] (.tup [.agg (fcl f), .agg (fltC ⟨71, k, ch⟩)])) (hhd : (s.drop 0).take (((k : Nat) : Int).toNat - 0) = hd) (hlen : hd.length = k) (hB' : Pure Tryd.prog 20 [.str hd] (.tup [.agg (fcl g), .agg (fltC ⟨0, p, q⟩)]))
    (hC : Pure Tryd.prog 20 [.str (s ++ [32] ++ more)] (.tup [.agg (fcl v), .agg (fltC V)])) (hV : V = ⟨71, k, ch⟩ ∨ V.why = 6 ∨ V.why = 50 ∨ V.why = 51 ∨ V.why = 52 ∨ V.why = 70) : Pure Tryd.prog 6 [.str s, .str more] (.bool true) := by
  have hq : V = ⟨71, k, ch⟩ → EqlE Tryd.prog 44 [.int .i64 V.why, .int .i64 V.at', .int .i64 V.ch] [.int .i64 71, .int .i64 k, .int .i64 ch] true := fun e => by
    have := eqlF (w := 71) (a := k) (b := ch) (w' := 71) (c := k) (d := ch) (by decide) ⟨by omega, by omega⟩ hch (by decide) ⟨by omega, by omega⟩ hch
    rw [e]; simpa using this
  have hgr := law7_great ⟨0, p, q⟩
  have hB : Pure Tryd.prog 20 [.str ((s.drop 0).take (((k : Nat) : Int).toNat - 0))] (.tup [.agg (fcl g), .agg (fltC ⟨0, p, q⟩)]) := by rw [hhd]; exact hB'
  have hlen' : ((s.drop 0).take (((k : Nat) : Int).toNat - 0)).length = k := by rw [hhd]; exact hlen
  refine Pure.of_sw 114 Tryd.func6 rfl Tryd.ntmps6 (by kernel_rfl) (Nat.le_of_ble_eq_true (by kernel_rfl)) (by simp [closeds, AV.closed, aSs_closed, aIs_closed, aBs_closed, aRs_closed, aDen_closed]) (by simp [AV.closed, closeds, aSs_closed, aIs_closed, aBs_closed, aRs_closed, aDen_closed]) ?_; refine SW.of_vc ?_
  repeat first | refine opsStep ?_ | refine codeStep ?_ | refine drawStep ?_
  refine callP law7_fixed ?_
  repeat first | refine opsStep ?_ | refine codeStep ?_ | refine drawStep ?_
  refine callP hA ?_
  repeat first | refine opsStep ?_ | refine codeStep ?_ | refine drawStep ?_
  refine decB_false (b := decide ((k : Int) ≥ (s.length : Int))) (by simp; omega) ?_
  repeat first | refine opsStep ?_ | refine codeStep ?_ | refine drawStep ?_
  refine guardE_of (by show (0 : Int) ≤ 0 ∧ (0 : Int) ≤ (k : Int) ∧ (k : Int) ≤ (s.length : Int); omega) ?_
  repeat first | refine opsStep ?_ | refine codeStep ?_ | refine drawStep ?_
  refine callP hB ?_
  iterate 8 refine opsStep ?_
  refine VCode.ent (Ent.fr' (l := [(0, .str s), (1, .str more), (6, .ref 1 0 0), (7, .str ((s.drop 0).take (((k : Nat) : Int).toNat - 0))), (9, .ref 3 0 0)]) (H' := [.cells 0 (fcl f), .cells 0 (fltC ⟨71, k, ch⟩), .cells 0 (fcl g), .cells 0 (fltC ⟨0, p, q⟩)]) ⟨(by kernel_rfl), (by kernel_rfl), (by kernel_rfl), (by kernel_rfl), (by kernel_rfl), trivial⟩ (by kernel_rfl)) ?_
  repeat first | refine opsStep ?_ | refine codeStep ?_ | refine drawStep ?_
  skip
  refine guardE_of (by show s.length + 1 ≤ 9223372036854775807; omega) ?_
  repeat first | refine opsStep ?_ | refine codeStep ?_ | refine drawStep ?_
  refine guardE_of (by show (s ++ [32]).length + more.length ≤ 9223372036854775807; rw [List.length_append]; simp only [List.length_singleton]; omega) ?_
  repeat first | refine opsStep ?_ | refine codeStep ?_ | refine drawStep ?_
  refine callP hC ?_
  repeat first | refine opsStep ?_ | refine codeStep ?_ | refine drawStep ?_
  refine decB_dec (fun v1 => ?_) (fun v1 => ?_)
  · repeat first | refine opsStep ?_ | refine codeStep ?_ | refine drawStep ?_
    exact finB (b' := true) (by kernel_rfl) rfl
  repeat first | refine opsStep ?_ | refine codeStep ?_ | refine drawStep ?_
  refine decB_dec (fun v2 => ?_) (fun v2 => ?_)
  · repeat first | refine opsStep ?_ | refine codeStep ?_ | refine drawStep ?_
    exact finB (b' := true) (by kernel_rfl) rfl
  repeat first | refine opsStep ?_ | refine codeStep ?_ | refine drawStep ?_
  refine decB_dec (fun v3 => ?_) (fun v3 => ?_)
  · repeat first | refine opsStep ?_ | refine codeStep ?_ | refine drawStep ?_
    exact finB (b' := true) (by kernel_rfl) rfl
  repeat first | refine opsStep ?_ | refine codeStep ?_ | refine drawStep ?_
  refine decB_dec (fun v4 => ?_) (fun v4 => ?_)
  · repeat first | refine opsStep ?_ | refine codeStep ?_ | refine drawStep ?_
    exact finB (b' := true) (by kernel_rfl) rfl
  repeat first | refine opsStep ?_ | refine codeStep ?_ | refine drawStep ?_
  refine decB_dec (fun v5 => ?_) (fun v5 => ?_)
  · repeat first | refine opsStep ?_ | refine codeStep ?_ | refine drawStep ?_
    exact finB (b' := true) (by kernel_rfl) rfl
  have hV1 : V = ⟨71, k, ch⟩ := by
    rcases hV with h | h | h | h | h | h
    · exact h
    · exact absurd h v4
    · exact absurd h v1
    · exact absurd h v2
    · exact absurd h v3
    · exact absurd h v5
  repeat first | refine opsStep ?_ | refine codeStep ?_ | refine drawStep ?_
  refine ⟨true, hq hV1, ?_⟩
  repeat first | refine opsStep ?_ | refine codeStep ?_ | refine drawStep ?_
  exact finB (b' := true) (by kernel_rfl) rfl
theorem stops_72 (s more : Str) (f g v : FT) (k ch p q : Nat) (V : Flt) (hd : Str) (hs : s.length + more.length < 2 ^ 62) (hk : k < s.length) (hch : okJ ch) 
    (hA : Pure Tryd.prog 20 [.str s] (.tup [.agg (fcl f), .agg (fltC ⟨71, k, ch⟩)])) (hhd : (s.drop 0).take (((k : Nat) : Int).toNat - 0) = hd) (hlen : hd.length = k) (hB' : Pure Tryd.prog 20 [.str hd] (.tup [.agg (fcl g), .agg (fltC ⟨72, p, q⟩)]))
    (hC : Pure Tryd.prog 20 [.str (s ++ [32] ++ more)] (.tup [.agg (fcl v), .agg (fltC V)])) (hV : V = ⟨71, k, ch⟩ ∨ V.why = 6 ∨ V.why = 50 ∨ V.why = 51 ∨ V.why = 52 ∨ V.why = 70) : Pure Tryd.prog 6 [.str s, .str more] (.bool true) := by
  have hq : V = ⟨71, k, ch⟩ → EqlE Tryd.prog 44 [.int .i64 V.why, .int .i64 V.at', .int .i64 V.ch] [.int .i64 71, .int .i64 k, .int .i64 ch] true := fun e => by
    have := eqlF (w := 71) (a := k) (b := ch) (w' := 71) (c := k) (d := ch) (by decide) ⟨by omega, by omega⟩ hch (by decide) ⟨by omega, by omega⟩ hch
    rw [e]; simpa using this
  have hgr := law7_great ⟨72, p, q⟩
  have hB : Pure Tryd.prog 20 [.str ((s.drop 0).take (((k : Nat) : Int).toNat - 0))] (.tup [.agg (fcl g), .agg (fltC ⟨72, p, q⟩)]) := by rw [hhd]; exact hB'
  have hlen' : ((s.drop 0).take (((k : Nat) : Int).toNat - 0)).length = k := by rw [hhd]; exact hlen
  refine Pure.of_sw 114 Tryd.func6 rfl Tryd.ntmps6 (by kernel_rfl) (Nat.le_of_ble_eq_true (by kernel_rfl)) (by simp [closeds, AV.closed, aSs_closed, aIs_closed, aBs_closed, aRs_closed, aDen_closed]) (by simp [AV.closed, closeds, aSs_closed, aIs_closed, aBs_closed, aRs_closed, aDen_closed]) ?_; refine SW.of_vc ?_
  repeat first | refine opsStep ?_ | refine codeStep ?_ | refine drawStep ?_
  refine callP law7_fixed ?_
  repeat first | refine opsStep ?_ | refine codeStep ?_ | refine drawStep ?_
  refine callP hA ?_
  repeat first | refine opsStep ?_ | refine codeStep ?_ | refine drawStep ?_
  refine decB_false (b := decide ((k : Int) ≥ (s.length : Int))) (by simp; omega) ?_
  repeat first | refine opsStep ?_ | refine codeStep ?_ | refine drawStep ?_
  refine guardE_of (by show (0 : Int) ≤ 0 ∧ (0 : Int) ≤ (k : Int) ∧ (k : Int) ≤ (s.length : Int); omega) ?_
  repeat first | refine opsStep ?_ | refine codeStep ?_ | refine drawStep ?_
  refine callP hB ?_
  iterate 8 refine opsStep ?_
  refine VCode.ent (Ent.fr' (l := [(0, .str s), (1, .str more), (6, .ref 1 0 0), (7, .str ((s.drop 0).take (((k : Nat) : Int).toNat - 0))), (9, .ref 3 0 0)]) (H' := [.cells 0 (fcl f), .cells 0 (fltC ⟨71, k, ch⟩), .cells 0 (fcl g), .cells 0 (fltC ⟨72, p, q⟩)]) ⟨(by kernel_rfl), (by kernel_rfl), (by kernel_rfl), (by kernel_rfl), (by kernel_rfl), trivial⟩ (by kernel_rfl)) ?_
  repeat first | refine opsStep ?_ | refine codeStep ?_ | refine drawStep ?_
  refine callP hgr ?_
  repeat first | refine opsStep ?_ | refine codeStep ?_ | refine drawStep ?_
  refine guardE_of (by show s.length + 1 ≤ 9223372036854775807; omega) ?_
  repeat first | refine opsStep ?_ | refine codeStep ?_ | refine drawStep ?_
  refine guardE_of (by show (s ++ [32]).length + more.length ≤ 9223372036854775807; rw [List.length_append]; simp only [List.length_singleton]; omega) ?_
  repeat first | refine opsStep ?_ | refine codeStep ?_ | refine drawStep ?_
  refine callP hC ?_
  repeat first | refine opsStep ?_ | refine codeStep ?_ | refine drawStep ?_
  refine decB_dec (fun v1 => ?_) (fun v1 => ?_)
  · repeat first | refine opsStep ?_ | refine codeStep ?_ | refine drawStep ?_
    exact finB (b' := true) (by kernel_rfl) rfl
  repeat first | refine opsStep ?_ | refine codeStep ?_ | refine drawStep ?_
  refine decB_dec (fun v2 => ?_) (fun v2 => ?_)
  · repeat first | refine opsStep ?_ | refine codeStep ?_ | refine drawStep ?_
    exact finB (b' := true) (by kernel_rfl) rfl
  repeat first | refine opsStep ?_ | refine codeStep ?_ | refine drawStep ?_
  refine decB_dec (fun v3 => ?_) (fun v3 => ?_)
  · repeat first | refine opsStep ?_ | refine codeStep ?_ | refine drawStep ?_
    exact finB (b' := true) (by kernel_rfl) rfl
  repeat first | refine opsStep ?_ | refine codeStep ?_ | refine drawStep ?_
  refine decB_dec (fun v4 => ?_) (fun v4 => ?_)
  · repeat first | refine opsStep ?_ | refine codeStep ?_ | refine drawStep ?_
    exact finB (b' := true) (by kernel_rfl) rfl
  repeat first | refine opsStep ?_ | refine codeStep ?_ | refine drawStep ?_
  refine decB_dec (fun v5 => ?_) (fun v5 => ?_)
  · repeat first | refine opsStep ?_ | refine codeStep ?_ | refine drawStep ?_
    exact finB (b' := true) (by kernel_rfl) rfl
  have hV1 : V = ⟨71, k, ch⟩ := by
    rcases hV with h | h | h | h | h | h
    · exact h
    · exact absurd h v4
    · exact absurd h v1
    · exact absurd h v2
    · exact absurd h v3
    · exact absurd h v5
  repeat first | refine opsStep ?_ | refine codeStep ?_ | refine drawStep ?_
  refine ⟨true, hq hV1, ?_⟩
  repeat first | refine opsStep ?_ | refine codeStep ?_ | refine drawStep ?_
  exact finB (b' := true) (by kernel_rfl) rfl
theorem stops_73 (s more : Str) (f g v : FT) (k ch p q : Nat) (V : Flt) (hd : Str) (hs : s.length + more.length < 2 ^ 62) (hk : k < s.length) (hch : okJ ch) 
    (hA : Pure Tryd.prog 20 [.str s] (.tup [.agg (fcl f), .agg (fltC ⟨71, k, ch⟩)])) (hhd : (s.drop 0).take (((k : Nat) : Int).toNat - 0) = hd) (hlen : hd.length = k) (hB' : Pure Tryd.prog 20 [.str hd] (.tup [.agg (fcl g), .agg (fltC ⟨73, p, q⟩)]))
    (hC : Pure Tryd.prog 20 [.str (s ++ [32] ++ more)] (.tup [.agg (fcl v), .agg (fltC V)])) (hV : V = ⟨71, k, ch⟩ ∨ V.why = 6 ∨ V.why = 50 ∨ V.why = 51 ∨ V.why = 52 ∨ V.why = 70) : Pure Tryd.prog 6 [.str s, .str more] (.bool true) := by
  have hq : V = ⟨71, k, ch⟩ → EqlE Tryd.prog 44 [.int .i64 V.why, .int .i64 V.at', .int .i64 V.ch] [.int .i64 71, .int .i64 k, .int .i64 ch] true := fun e => by
    have := eqlF (w := 71) (a := k) (b := ch) (w' := 71) (c := k) (d := ch) (by decide) ⟨by omega, by omega⟩ hch (by decide) ⟨by omega, by omega⟩ hch
    rw [e]; simpa using this
  have hgr := law7_great ⟨73, p, q⟩
  have hB : Pure Tryd.prog 20 [.str ((s.drop 0).take (((k : Nat) : Int).toNat - 0))] (.tup [.agg (fcl g), .agg (fltC ⟨73, p, q⟩)]) := by rw [hhd]; exact hB'
  have hlen' : ((s.drop 0).take (((k : Nat) : Int).toNat - 0)).length = k := by rw [hhd]; exact hlen
  refine Pure.of_sw 114 Tryd.func6 rfl Tryd.ntmps6 (by kernel_rfl) (Nat.le_of_ble_eq_true (by kernel_rfl)) (by simp [closeds, AV.closed, aSs_closed, aIs_closed, aBs_closed, aRs_closed, aDen_closed]) (by simp [AV.closed, closeds, aSs_closed, aIs_closed, aBs_closed, aRs_closed, aDen_closed]) ?_; refine SW.of_vc ?_
  repeat first | refine opsStep ?_ | refine codeStep ?_ | refine drawStep ?_
  refine callP law7_fixed ?_
  repeat first | refine opsStep ?_ | refine codeStep ?_ | refine drawStep ?_
  refine callP hA ?_
  repeat first | refine opsStep ?_ | refine codeStep ?_ | refine drawStep ?_
  refine decB_false (b := decide ((k : Int) ≥ (s.length : Int))) (by simp; omega) ?_
  repeat first | refine opsStep ?_ | refine codeStep ?_ | refine drawStep ?_
  refine guardE_of (by show (0 : Int) ≤ 0 ∧ (0 : Int) ≤ (k : Int) ∧ (k : Int) ≤ (s.length : Int); omega) ?_
  repeat first | refine opsStep ?_ | refine codeStep ?_ | refine drawStep ?_
  refine callP hB ?_
  iterate 8 refine opsStep ?_
  refine VCode.ent (Ent.fr' (l := [(0, .str s), (1, .str more), (6, .ref 1 0 0), (7, .str ((s.drop 0).take (((k : Nat) : Int).toNat - 0))), (9, .ref 3 0 0)]) (H' := [.cells 0 (fcl f), .cells 0 (fltC ⟨71, k, ch⟩), .cells 0 (fcl g), .cells 0 (fltC ⟨73, p, q⟩)]) ⟨(by kernel_rfl), (by kernel_rfl), (by kernel_rfl), (by kernel_rfl), (by kernel_rfl), trivial⟩ (by kernel_rfl)) ?_
  repeat first | refine opsStep ?_ | refine codeStep ?_ | refine drawStep ?_
  refine callP hgr ?_
  repeat first | refine opsStep ?_ | refine codeStep ?_ | refine drawStep ?_
  refine guardE_of (by show s.length + 1 ≤ 9223372036854775807; omega) ?_
  repeat first | refine opsStep ?_ | refine codeStep ?_ | refine drawStep ?_
  refine guardE_of (by show (s ++ [32]).length + more.length ≤ 9223372036854775807; rw [List.length_append]; simp only [List.length_singleton]; omega) ?_
  repeat first | refine opsStep ?_ | refine codeStep ?_ | refine drawStep ?_
  refine callP hC ?_
  repeat first | refine opsStep ?_ | refine codeStep ?_ | refine drawStep ?_
  refine decB_dec (fun v1 => ?_) (fun v1 => ?_)
  · repeat first | refine opsStep ?_ | refine codeStep ?_ | refine drawStep ?_
    exact finB (b' := true) (by kernel_rfl) rfl
  repeat first | refine opsStep ?_ | refine codeStep ?_ | refine drawStep ?_
  refine decB_dec (fun v2 => ?_) (fun v2 => ?_)
  · repeat first | refine opsStep ?_ | refine codeStep ?_ | refine drawStep ?_
    exact finB (b' := true) (by kernel_rfl) rfl
  repeat first | refine opsStep ?_ | refine codeStep ?_ | refine drawStep ?_
  refine decB_dec (fun v3 => ?_) (fun v3 => ?_)
  · repeat first | refine opsStep ?_ | refine codeStep ?_ | refine drawStep ?_
    exact finB (b' := true) (by kernel_rfl) rfl
  repeat first | refine opsStep ?_ | refine codeStep ?_ | refine drawStep ?_
  refine decB_dec (fun v4 => ?_) (fun v4 => ?_)
  · repeat first | refine opsStep ?_ | refine codeStep ?_ | refine drawStep ?_
    exact finB (b' := true) (by kernel_rfl) rfl
  repeat first | refine opsStep ?_ | refine codeStep ?_ | refine drawStep ?_
  refine decB_dec (fun v5 => ?_) (fun v5 => ?_)
  · repeat first | refine opsStep ?_ | refine codeStep ?_ | refine drawStep ?_
    exact finB (b' := true) (by kernel_rfl) rfl
  have hV1 : V = ⟨71, k, ch⟩ := by
    rcases hV with h | h | h | h | h | h
    · exact h
    · exact absurd h v4
    · exact absurd h v1
    · exact absurd h v2
    · exact absurd h v3
    · exact absurd h v5
  repeat first | refine opsStep ?_ | refine codeStep ?_ | refine drawStep ?_
  refine ⟨true, hq hV1, ?_⟩
  repeat first | refine opsStep ?_ | refine codeStep ?_ | refine drawStep ?_
  exact finB (b' := true) (by kernel_rfl) rfl
theorem stops_main (s more : Str) (f g v : FT) (k ch p q : Nat) (y : Int) (V : Flt) (hd : Str) (hs : s.length + more.length < 2 ^ 62) (hk : k < s.length) (hch : okJ ch) (hG : (y = 71 ∧ p = k) ∨ okSize y)
    (hA : Pure Tryd.prog 20 [.str s] (.tup [.agg (fcl f), .agg (fltC ⟨71, k, ch⟩)])) (hhd : (s.drop 0).take (((k : Nat) : Int).toNat - 0) = hd) (hlen : hd.length = k) (hB' : Pure Tryd.prog 20 [.str hd] (.tup [.agg (fcl g), .agg (fltC ⟨y, p, q⟩)]))
    (hC : Pure Tryd.prog 20 [.str (s ++ [32] ++ more)] (.tup [.agg (fcl v), .agg (fltC V)])) (hV : V = ⟨71, k, ch⟩ ∨ V.why = 6 ∨ V.why = 50 ∨ V.why = 51 ∨ V.why = 52 ∨ V.why = 70) : Pure Tryd.prog 6 [.str s, .str more] (.bool true) := by
  rcases hG with ⟨rfl, hpk⟩ | rfl | rfl | rfl
  · exact stops_71 s more f g v k ch p q V hd hs hk hch hpk hA hhd hlen hB' hC hV
  · exact stops_0 s more f g v k ch p q V hd hs hk hch hA hhd hlen hB' hC hV
  · exact stops_72 s more f g v k ch p q V hd hs hk hch hA hhd hlen hB' hC hV
  · exact stops_73 s more f g v k ch p q V hd hs hk hch hA hhd hlen hB' hC hV

theorem parseStops (s more : Str) (hs : s.length + more.length < 2 ^ 61) : Pure Tryd.prog 6 [.str s, .str more] (.bool true) := by
  have hA := parse_Formula s (by omega)
  have hgood : (parF s).2.why = 0 → chkF (parF s).1 = 0 := fun h => (parF_good h).1
  by_cases h : (parF s).2.why ≠ 71 ∨ s.length ≤ (parF s).2.at'
  · exact stops_else s more _ _ (by omega) h (parF_ok s) hgood hA
  have h1 : (parF s).2.why = 71 := Decidable.of_not_not fun k => h (.inl k)
  have h2 : (parF s).2.at' < s.length := Nat.lt_of_not_le fun k => h (.inr k)
  have hhead := stops_head h1 h2
  have hmore := stops_more more h1 h2
  have hfl := parF_fl s
  have hsz : s ++ 32 :: more = s ++ [32] ++ more := by simp
  have hlen : (s.take (parF s).2.at').length = (parF s).2.at' := by rw [List.length_take]; omega
  have hB := parse_Formula (s.take (parF s).2.at') (by rw [List.length_take]; omega)
  have hC := parse_Formula (s ++ [32] ++ more) (by simp; omega)
  rw [hsz] at hmore
  refine stops_main s more (parF s).1 (parF (s.take (parF s).2.at')).1 (parF (s ++ [32] ++ more)).1 (parF s).2.at' (parF s).2.ch (parF (s.take (parF s).2.at')).2.at' (parF (s.take (parF s).2.at')).2.ch (parF (s.take (parF s).2.at')).2.why (parF (s ++ [32] ++ more)).2 (s.take (parF s).2.at') (by omega) h2 hfl.2.2 hhead ?_ (by simp) hlen hB hC ?_
  · have e : (⟨71, (parF s).2.at', (parF s).2.ch⟩ : Flt) = (parF s).2 := by rw [← h1]
    rw [e]; exact hA
  · have e : (⟨71, (parF s).2.at', (parF s).2.ch⟩ : Flt) = (parF s).2 := by rw [← h1]
    rw [e]
    rcases hmore with h | ⟨h, h0⟩ | h
    · exact .inl h
    · rcases h with h | h | h | h | h
      · exact absurd h h0
      · exact .inr (.inl h)
      · exact .inr (.inr (.inl h))
      · exact .inr (.inr (.inr (.inl h)))
      · exact .inr (.inr (.inr (.inr (.inl h))))
    · exact .inr (.inr (.inr (.inr (.inr h))))

end Tab
