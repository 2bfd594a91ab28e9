import PyProof.Rows.All
import Wide.All
import OpenK.AllK
import Wide.FinOn
import Lean
import PySem.Challenge.RW_xm0711_01
open PySem PySem.W PyProof.Rows
set_option Elab.async false
set_option maxRecDepth 100000

-- the head: the top's run
set_option maxHeartbeats 8000000 in
open_top Mine.hd for PySem.Challenge.rw_xm0711_01

-- plain laws: what a cut quotient and a rounded product are
section
namespace Mine
theorem fdiv_rest (x c : Int) (hc : 0 < c) : ∃ r, x = c * x.fdiv c + r ∧ 0 ≤ r ∧ r < c :=
  ⟨x.fmod c, by have := Int.mul_fdiv_add_fmod x c; omega, Int.fmod_nonneg_of_pos x hc, Int.fmod_lt_of_pos x hc⟩
/-- what is told of a quotient in 64ths -/
def CutSpec (one other told : Int) : Prop :=
  ((64 * one - told * other).natAbs : Int) < (other.natAbs : Int) ∧
  (64 * one - told * other = 0 ∨ (0 < 64 * one - told * other ∧ 0 < one) ∨ (64 * one - told * other < 0 ∧ one < 0)) ∧
  -(64 * (one.natAbs : Int)) ≤ told ∧ told ≤ 64 * (one.natAbs : Int)
theorem quot_le {y c q r : Int} (hc : 0 < c) (hy : 0 ≤ y) (e : y = c * q + r) (h0 : 0 ≤ r) (h1 : r < c) : 0 ≤ q ∧ q ≤ y := by
  have hq : 0 ≤ q := by
    false_or_by_contra
    have : c * q ≤ c * (-1) := Int.mul_le_mul_of_nonneg_left (by omega) (by omega)
    omega
  refine ⟨hq, ?_⟩
  have : 1 * q ≤ c * q := Int.mul_le_mul_of_nonneg_right (by omega) hq
  omega
theorem cut_pos {a c : Int} (hc : 0 < c) (ha : 0 ≤ a * 64) : CutSpec a c ((a * 64).fdiv c) := by
  obtain ⟨r, e, h0, h1⟩ := fdiv_rest (a * 64) c hc
  obtain ⟨q0, q1⟩ := quot_le hc ha e h0 h1
  have ec : (a * 64).fdiv c * c = c * (a * 64).fdiv c := Int.mul_comm _ _
  have rest : 64 * a - (a * 64).fdiv c * c = r := by omega
  have z : a = 0 → r = 0 := fun h => by
    subst h
    have : ((0 : Int) * 64).fdiv c = 0 := by rw [Int.zero_mul, Int.zero_fdiv]
    rw [this] at e
    omega
  unfold CutSpec
  refine ⟨by rw [rest]; omega, ?_, by omega, by omega⟩
  rw [rest]
  by_cases hr : r = 0
  · exact .inl hr
  · exact .inr (.inl ⟨by omega, by have := fun h => hr (z h); omega⟩)
theorem cut_neg {a c : Int} (hc : 0 < c) (ha : a * 64 < 0) : CutSpec a c (0 - (0 - a * 64).fdiv c) := by
  obtain ⟨r, e, h0, h1⟩ := fdiv_rest (0 - a * 64) c hc
  obtain ⟨q0, q1⟩ := quot_le hc (by omega) e h0 h1
  have ec : (0 - (0 - a * 64).fdiv c) * c = - (c * (0 - a * 64).fdiv c) := by rw [Int.zero_sub, Int.neg_mul, Int.mul_comm]
  have rest : 64 * a - (0 - (0 - a * 64).fdiv c) * c = -r := by omega
  unfold CutSpec
  refine ⟨by rw [rest]; omega, ?_, by omega, by omega⟩
  rw [rest]
  omega
theorem cut_npos {a c : Int} (hc : c < 0) (ha : 0 - a * 64 < 0) : CutSpec a c (0 - (0 - (0 - a * 64)).fdiv (0 - c)) := by
  have hd : 0 < 0 - c := by omega
  obtain ⟨r, e, h0, h1⟩ := fdiv_rest (0 - (0 - a * 64)) (0 - c) hd
  obtain ⟨q0, q1⟩ := quot_le hd (by omega) e h0 h1
  generalize (0 - (0 - a * 64)).fdiv (0 - c) = q at *
  have ec : (0 - q) * c = (0 - c) * q := by rw [Int.zero_sub, Int.zero_sub, Int.neg_mul, Int.neg_mul, Int.mul_comm]
  have rest : 64 * a - (0 - q) * c = r := by omega
  unfold CutSpec
  refine ⟨by rw [rest]; omega, ?_, by omega, by omega⟩
  rw [rest]
  omega
theorem cut_nneg {a c : Int} (hc : c < 0) (ha : ¬ 0 - a * 64 < 0) : CutSpec a c ((0 - a * 64).fdiv (0 - c)) := by
  have hd : 0 < 0 - c := by omega
  obtain ⟨r, e, h0, h1⟩ := fdiv_rest (0 - a * 64) (0 - c) hd
  obtain ⟨q0, q1⟩ := quot_le hd (by omega) e h0 h1
  have z : a = 0 → r = 0 := fun h => by
    subst h
    have : (0 - (0 : Int) * 64).fdiv (0 - c) = 0 := by rw [Int.zero_mul, Int.sub_zero, Int.zero_fdiv]
    rw [this] at e
    omega
  generalize (0 - a * 64).fdiv (0 - c) = q at *
  have ec : q * c = - ((0 - c) * q) := by rw [Int.zero_sub, Int.neg_mul, Int.neg_neg, Int.mul_comm]
  have rest : 64 * a - q * c = -r := by omega
  unfold CutSpec
  refine ⟨by rw [rest]; omega, ?_, by omega, by omega⟩
  rw [rest]
  by_cases hr : r = 0
  · exact .inl (by omega)
  · exact .inr (.inr ⟨by omega, by have := fun h => hr (z h); omega⟩)
/-- what is told of a product, over 64 -/
def MulSpec (top told : Int) : Prop :=
  2 * ((top - 64 * told).natAbs : Int) < 64 ∨ (2 * ((top - 64 * told).natAbs : Int) = 64 ∧ ((64 * told).natAbs : Int) > (top.natAbs : Int))
theorem mul_neg {x : Int} (hx : x < 0) : MulSpec x (0 - (0 - 2 * x + 64).fdiv (2 * 64)) := by
  obtain ⟨r, e, h0, h1⟩ := fdiv_rest (0 - 2 * x + 64) (2 * 64) (by decide)
  unfold MulSpec
  omega
theorem mul_pos {x : Int} (hx : ¬ x < 0) : MulSpec x ((2 * x + 64).fdiv (2 * 64)) := by
  obtain ⟨r, e, h0, h1⟩ := fdiv_rest (2 * x + 64) (2 * 64) (by decide)
  unfold MulSpec
  omega
end Mine
end

-- an exception of the text's own, made: its call is run
section
namespace Mine
/-- an exception object of an own class that bears a dict: what the call has made -/
def MadeD (h h' : Heap) (e : Addr) (cls : Value) (args : List Value) : Prop :=
  (∀ b o, h.get? b = some o → h'.get? b = some o) ∧ h.get? e = none ∧
  ∃ t d, h'.get? e = some { cls := cls, dict := some d, data := .fields #[.ref t, .none, .none, .none, .bool false, .none] } ∧ h.get? t = none ∧
    h'.get? t = some { cls := .type "tuple", data := .seq args.toArray }
theorem MadeD.keeps {h h' : Heap} {e : Addr} {cls : Value} {args : List Value} (x : MadeD h h' e cls args) : ∀ b o, h.get? b = some o → h'.get? b = some o := x.1
theorem MadeD.new {h h' : Heap} {e : Addr} {cls : Value} {args : List Value} (x : MadeD h h' e cls args) : h.get? e = none := x.2.1
theorem MadeD.there {h h' : Heap} {e : Addr} {cls : Value} {args : List Value} (x : MadeD h h' e cls args) :
    ∃ t d, h'.get? e = some { cls := cls, dict := some d, data := .fields #[.ref t, .none, .none, .none, .bool false, .none] } ∧ h.get? t = none ∧
      h'.get? t = some { cls := .type "tuple", data := .seq args.toArray } := x.2.2
def HintRet (s : Shared) (v : Value) (Q : Value → Shared → Prop) : Prop :=
  ∀ (e : Addr) (h' : Heap) (tk' : Nat), MadeD s.heap h' e (.ref 44) [v] → Q (.ref e) { s with heap := h', toks := tk' }
theorem mem_keeps {h h' : Heap} {news : List (Addr × Obj)} (D : X.Mem h h' [] news) : ∀ b o, h.get? b = some o → h'.get? b = some o :=
  fun b o e => D.keep b o e (by rw [show X.away [] b = true from rfl, Bool.or_true])
theorem hint_end {s : Shared} {v : Value} {Q : Value → Shared → Prop} {h : Heap} {tk : Nat} {a b e c : Addr} {oa ob : Obj} (ret : HintRet s v Q)
    (D : X.Mem s.heap h [] [(a, oa), (b, ob), (e, { cls := .ref 44, dict := some a, data := .fields #[.ref c, .none, .none, .none, .bool false, .none] }), (c, { cls := .type "tuple", data := .seq [v].toArray })]) :
    Q (.ref e) ⟨h, s.gens, s.drawn, tk, s.os⟩ :=
  ret e h tk ⟨mem_keeps D, (D.nw _ (.tail _ (.tail _ (.head _)))).2, c, a, (D.nw _ (.tail _ (.tail _ (.head _)))).1, (D.nw _ (.tail _ (.tail _ (.tail _ (.head _))))).2, (D.nw _ (.tail _ (.tail _ (.tail _ (.head _))))).1⟩
end Mine
open PySem.W.X
local macro_rules | `(tactic| x_close) => `(tactic| exact Mine.hint_end (by assumption) (by assumption))
set_option maxRecDepth 100000 in
set_option maxHeartbeats 8000000 in
theorem Mine.hint_made {w : World} {e1 e2 e3 : Env} {s : Shared} {Q E : Value → Shared → Prop} {t : Tok}
  (KX : (Mine.hd.heap_39 w.params).In s.heap)
  (ret : Mine.HintRet s (.str (Str.ofString "division by nought") t) Q) :
  wpAny (model Challenge.rw_xm0711_01.row.prog w) (((callerA.deeper e1).deeper e2).deeper e3) (call (.ref 44) [.str (Str.ofString "division by nought") t]) Q E s := by
  w_on
  revert KX
  k_fill
  intro KX
  x_run
end

-- raised, and leaving the frame that raised it
section
open PySem.Spec PySem.Calls
namespace Mine
section
variable {M : Model} {A : Around} {E : Value → Shared → Prop} {env : Env} {nm q : Str} {C N : Addr} {bs bm : List Value} {hdct : Bool} {sn : List Str} {sub : List Value} {ab : Bool} {col : Option Bool} {dd : Option Addr} {k0 k1 k2 k3 k5 : Option Value} {newId : String}
/-- raise of an object (it bears a dict) of an own exception class -/
theorem raise_own {e : Expr} {pos : Pos} {s : Shared} {Q : Flow → Shared → Prop} (hbase : (Value.ref C :: bm).contains (.type "BaseException") = true) (hh : A.handled = none)
    (h : wpAny M A (eval e env) (fun v s₁ => ∃ a t d, v = .ref a ∧ s₁.heap.get? C = some (excClassObj nm q C N bs bm hdct sn sub ab col dd k0 k1 k2 k3 k5 newId) ∧
      s₁.heap.get? a = some { cls := .ref C, dict := some d, data := .fields #[.ref t, .none, .none, .none, .bool false, .none] } ∧ E (.ref a) s₁) E s) :
    wpAny M A (exec (.Raise (some e) none pos) env) Q E s := by
  show wpAny M A (do standAt pos; raiseStmt env (some (do let v ← eval e env; standAt pos; pure v)) none) Q E s
  refine wpAny_bind (wpAny_standAt ?_)
  unfold raiseStmt
  dsimp only
  refine wpAny_bind (wpAny_bind (wpAny_mono h (fun v s₁ h₁ => wpAny_bind (wpAny_standAt (wpAny_pure ?_))) fun _ _ x => x))
  obtain ⟨a, t, d, rfl, hC, he, hE⟩ := h₁
  obtain ⟨hp, g, dr, tk, os⟩ := s₁
  repeat (first | with_reducible refine wpAny_loadPart_at he ?_ | with_reducible refine wpAny_loadPart_at hC ?_ | (with_reducible refine wpAny_isSubtype_exc hC ?_; rw [hbase]) | wp_step)
  exact wpAny_raiseNew_none hh hE
end
section
variable {M : Model} {A : Around} {E : Value → Shared → Prop} {s' : Shared} {base g h : Heap} {outer : List Env} {L a e : Addr} {m : Str → Option Value} {name : Str} {scope : Scope} {cd : Value} {Q : Unit → Shared → Prop} {news : List (Addr × Obj)}
theorem stays_fresh {b : Addr} (k : ∀ b o, g.get? b = some o → h.get? b = some o) (n : h.get? b = none) : g.get? b = none := by
  cases q : g.get? b with
  | none => rfl
  | some o => rw [k b o q] at n; cases n
/-- an own exception that bears a dict leaves the frame that raised it -/
theorem leave_raiseD {cls : Value} {vs : List Value} (hx : MadeD h s'.heap e cls vs) (F : Fr g L h m) (K : Below A base outer g) (N : News g L h news)
    (hQ : ∀ h' t, RaisedS base g outer e cls t vs news h' → RaisedK base outer e cls t vs news h' → g.UpToSlots h' → Q () { s' with heap := h' }) (hk : scope.kind = .function := by rfl) :
    wpAny M (A.deeper (envOf name scope L a cd)) (leaving (envOf name scope L a cd) (.ref e)) Q E s' := by
  have K' := K.push (name := name) (a := a) (cd := cd) F hk
  obtain ⟨t, d, he, ht0, ht⟩ := hx.there
  have noL : g.get? L = none := kts_self F
  -- the ground: h without the frames' own dicts
  let fs := (envOf name scope L a cd :: outer).filterMap (·.frame)
  have back : ∀ b o, (hideAll h fs).get? b = some o → h.get? b = some o := fun b o q => of_hideAll _ q
  have inFs : ∀ env ∈ (envOf name scope L a cd :: outer), ∀ b, env.frame = some b → b ∈ fs := fun env hm b hb => List.mem_filterMap.mpr ⟨env, hm, hb⟩
  have fromBase : base.StaysIn (hideAll h fs) := fun b o q => hideAll_get _ (K'.stays b o q) fun hm => by
    have z := (K'.frames.mem hm).1
    rw [q] at z; cases z
  have fromG : ∀ b o, g.get? b = some o → b ∉ outer.filterMap (·.frame) → (hideAll h fs).get? b = some o := fun b o q nm =>
    hideAll_get _ (F.keep b o q) fun hm => (kts_mem hm).elim (fun z => by subst z; rw [noL] at q; cases q) nm
  have led : ∀ p ∈ news, (hideAll h fs).get? p.1 = some p.2 ∧ g.get? p.1 = none ∧ base.get? p.1 = none := fun p hp => by
    obtain ⟨n1, n2, n3⟩ := N p hp
    refine ⟨hideAll_get _ n1 fun hm => ?_, n3, stays_fresh K.stays n3⟩
    refine (kts_mem hm).elim n2 fun hm' => ?_
    obtain ⟨o, ho, _⟩ := (K.frames.mem hm').2
    rw [n3] at ho; cases ho
  have frames : (hideAll h fs |> fun _ => h).FunFrames (hideAll h fs) (envOf name scope L a cd :: outer) := funFrames_hide K'.frames inFs
  have up : ∀ b o, (hideAll h fs).get? b = some o → s'.heap.get? b = some o := fun b o q => hx.keeps b o (back b o q)
  have newE : (hideAll h fs).get? e = none := stays_fresh back hx.new
  have newT : (hideAll h fs).get? t = none := stays_fresh back ht0
  refine wpAny_leaving_firstW (base := hideAll h fs) (a0 := .ref t) K'.stack (frames.of_keeps fun b o hb _ => ⟨o, hx.keeps b o hb, rfl⟩) rfl he up newE rfl rfl rfl fun h' hL => ?_
  obtain ⟨l1, ⟨_, _, l2⟩, l3, l4⟩ := hL
  have tup : h'.TupAt t vs := Heap.TupAt.of_slots ⟨_, _, ht, rfl, rfl⟩ l4
  have R : RaisedS base g outer e cls t vs news h' := ⟨⟨_, fromBase, fromG, led, ⟨l1, newE, l2, l3⟩, newT⟩, tup⟩
  exact hQ h' t R R.toK (((Heap.UpToSlots.of_keeps F.keep).trans (Heap.UpToSlots.of_keeps hx.keeps)).trans l4)
end
def Hinted (w : World) (E : Value → Shared → Prop) (v : Value) (s₁ : Shared) : Prop :=
  ∃ a t d, v = .ref a ∧ (Mine.hd.heap_39 w.params).In s₁.heap ∧ s₁.heap.get? a = some { cls := .ref 44, dict := some d, data := .fields #[.ref t, .none, .none, .none, .bool false, .none] } ∧ E (.ref a) s₁
theorem hinted {w : World} {h : Heap} {s₁ : Shared} {e : Addr} {vs : List Value} {E : Value → Shared → Prop} (hx : MadeD h s₁.heap e (.ref 44) vs) (X : (Mine.hd.heap_39 w.params).In h) (hE : E (.ref e) s₁) : Hinted w E (.ref e) s₁ :=
  let ⟨t, d, he, _, _⟩ := hx.there
  ⟨e, t, d, rfl, X.keeps hx.keeps, he, hE⟩
theorem raise_hint {w : World} {A : Around} {E : Value → Shared → Prop} {env : Env} {e : Expr} {pos : Pos} {s : Shared} {Q : Flow → Shared → Prop} (hh : A.handled = none)
    (h : wpAny (model Challenge.rw_xm0711_01.row.prog w) A (eval e env) (Hinted w E) E s) :
    wpAny (model Challenge.rw_xm0711_01.row.prog w) A (exec (.Raise (some e) none pos) env) Q E s := by
  have at44 : ∀ s₁ : Shared, (Mine.hd.heap_39 w.params).In s₁.heap → s₁.heap.get? 44 = some (excClassObj (Str.ofString "HintFault") (Str.ofString "HintFault") 44 43 [.ref 31] [.ref 31, .type "Exception", .type "BaseException", .type "object"] true [] [] false none none
      (some (.ref 35)) none (some (.str (Str.ofString "HintFault") 218)) (some (.str (Str.ofString "HintFault") 226)) (some (.bool true)) "Exception.__new__") := fun s₁ hX => hX 44 _ (by kernel_rfl)
  exact raise_own (by decide) hh (wpAny_mono h (fun v s₁ hv => let ⟨a, t, d, h1, hX, h3, h4⟩ := hv; ⟨a, t, d, h1, at44 s₁ hX, h3, h4⟩) fun _ _ x => x)
end Mine
end

-- cut_div and muldiv
section
namespace Mine
theorem fdiv_any {prog : Program} {w : World} {A : Around} {s : Shared} {E : Value → Shared → Prop} {x d : Int} {t u : Tok} {Q : Value → Shared → Prop} (hd : d ≠ 0)
    (hb : d.natAbs < 1267650600228229401496703205376)
    (h : Q (.int (x.fdiv d) s.toks) { s with toks := s.toks + 1 }) : wpAny (model prog w) A (binaryOp .FloorDiv (.int x t) (.int d u)) Q E s := by
  refine PyProof.Rows.floordiv_int hd h (.inl (PyProof.noPylong_of_log2 ?_))
  have : d.natAbs.log2 < 100 := (Nat.log2_lt (by omega)).mpr hb
  omega
theorem bits_any {k : Int} (h : k.natAbs < 1267650600228229401496703205376) : Builtin.Int.intBits k ≤ 2 ^ 20 := by
  unfold Builtin.Int.intBits
  split
  · decide
  · have : k.natAbs.log2 < 100 := (Nat.log2_lt (by simp_all)).mpr h
    have : (2 : Nat) ^ 20 = 1048576 := by decide
    omega
theorem mul_any {prog : Program} {w : World} {A : Around} {s : Shared} {E : Value → Shared → Prop} {x y : Int} {t u : Tok} {Q : Value → Shared → Prop} (hx : x.natAbs < 1267650600228229401496703205376) (hy : y.natAbs < 1267650600228229401496703205376)
    (h : Q (.int (x * y) s.toks) { s with toks := s.toks + 1 }) : wpAny (model prog w) A (binaryOp .Mult (.int x t) (.int y u)) Q E s :=
  PyProof.Rows.mul_int h (IntMulOk.of_bits (bits_any hx) (bits_any hy))
theorem news_tail {h₀ h : Heap} {L : Addr} {q : Addr × Obj} {news : List (Addr × Obj)} (N : News h₀ L h (q :: news)) : News h₀ L h news := fun p hp => N p (.tail _ hp)
end Mine
local macro_rules | `(tactic| walk_at "binaryOp Mult int int") => `(tactic| (k_here; k_dflt (refine' Mine.mul_any ?k1 ?k2 ?_; (case k1 => omega); (case k2 => omega))))
local macro_rules | `(tactic| walk_at "binaryOp FloorDiv int int") => `(tactic| (k_here; k_dflt (refine' Mine.fdiv_any ?k1 ?k2 ?_; (case k1 => omega); (case k2 => omega))))
set_option maxRecDepth 100000 in
set_option maxHeartbeats 8000000 in
theorem Mine.cut_ok {w : World} {mean : ExcName → Option Value} {mg mb : Str → Option Value} {dp un : Nat} {gd : Option (List Code)} {cn : Str} {cs : Scope} {a : Addr} {ccd : Value} {cl : List (Str × Addr)} {outer : List Env} {A₀ : Around} {base h₀ : Heap} {L : Addr}
  (X : (Mine.hd.heap_39 w.params).In h₀) (T : Top Mine.hd.view_39 (looseW Mine.hd.view_39 []) mean mg mb h₀) (B : Below A₀ base outer h₀) (hk : cs.kind = .function) (hdp : dp + 1 < recursionLimit) (hun : un + 8 < cLine)
  {m : Str → Option Value} {one other : Int} {to tc tt : Tok} {news : List (Addr × Obj)} {s : Shared} {Q E : Value → Shared → Prop}
  (F : Fr h₀ L s.heap m) (N : News h₀ L s.heap news) (h1 : -(200000000000000000000) ≤ one) (h2 : one ≤ 200000000000000000000) (h3 : other ≠ 0) (h4 : -(200000000000000000000) ≤ other) (h5 : other ≤ 200000000000000000000)
  (ret : ∀ (told : Int) (t : Tok) (h' : Heap) (tk' : Nat), Mine.CutSpec one other told → Fr h₀ L h' m → News h₀ L h' news → Q (.int told t) { s with heap := h', toks := tk' }) :
  wpAny (model Challenge.rw_xm0711_01.row.prog w) (ktrTop dp un gd cn cs L a ccd cl outer) (call (.ref 60) [.int one to, .int 64 tc, .int other tt]) Q E s := by
  w_on
  revert X
  k_fill
  intro X
  refine wpAny_call ?_
  k_dflt cell_enter
  w_strict (k_steps)
  all_goals (try dsimp only)
  all_goals (refine ret _ _ _ _ ?_ (by assumption) (by first | assumption | exact Mine.news_tail (by assumption)))
  all_goals (first | (with_reducible refine Mine.cut_pos ?_ ?_ <;> omega) | (with_reducible refine Mine.cut_neg ?_ ?_ <;> omega) | (with_reducible refine Mine.cut_npos ?_ ?_ <;> omega) | (with_reducible refine Mine.cut_nneg ?_ ?_ <;> omega))
set_option maxRecDepth 100000 in
set_option maxHeartbeats 8000000 in
theorem Mine.mul_ok {w : World} {mean : ExcName → Option Value} {mg mb : Str → Option Value} {dp un : Nat} {gd : Option (List Code)} {cn : Str} {cs : Scope} {a : Addr} {ccd : Value} {cl : List (Str × Addr)} {outer : List Env} {A₀ : Around} {base h₀ : Heap} {L : Addr}
  (X : (Mine.hd.heap_39 w.params).In h₀) (T : Top Mine.hd.view_39 (looseW Mine.hd.view_39 []) mean mg mb h₀) (B : Below A₀ base outer h₀) (hk : cs.kind = .function) (hdp : dp + 1 < recursionLimit) (hun : un + 8 < cLine)
  {m : Str → Option Value} {one other : Int} {to tc tt : Tok} {news : List (Addr × Obj)} {s : Shared} {Q E : Value → Shared → Prop}
  (F : Fr h₀ L s.heap m) (N : News h₀ L s.heap news) (h1 : -(200000000000000000000) ≤ one) (h2 : one ≤ 200000000000000000000) (h4 : -(200000000000000000000) ≤ other) (h5 : other ≤ 200000000000000000000)
  (ret : ∀ (told : Int) (t : Tok) (h' : Heap) (tk' : Nat), Mine.MulSpec (one * other) told → Fr h₀ L h' m → News h₀ L h' news → Q (.int told t) { s with heap := h', toks := tk' }) :
  wpAny (model Challenge.rw_xm0711_01.row.prog w) (ktrTop dp un gd cn cs L a ccd cl outer) (call (.ref 53) [.int one to, .int other tt, .int 64 tc]) Q E s := by
  w_on
  revert X
  k_fill
  intro X
  refine wpAny_call ?_
  k_dflt cell_enter
  w_strict (k_steps)
  all_goals (try dsimp only)
  all_goals (refine ret _ _ _ _ ?_ (by assumption) (by first | assumption | exact Mine.news_tail (by assumption)))
  all_goals (first | (with_reducible refine Mine.mul_neg ?_; omega) | (with_reducible refine Mine.mul_pos ?_; omega))
end

-- _law_is_right
section
local macro_rules | `(tactic| k_all) => `(tactic| assumption)
local macro_rules | `(tactic| walk_at "subscriptTail Name Constant ref int") => `(tactic| (k_here; (with_reducible show wpAny _ _ (subscriptTail _ _ (Value.ref _) (Value.int _ _)) _ _ _); (with_unfolding_all refine' item_litK ?k1 ?k2 ?k3 ?k4 ?_ ?k6; (case k1 => is_list); (case k2 => decide); (case k3 => decide); (case k4 => rfl); (case k6 => with_unfolding_all rfl); k_whole)))
local macro_rules | `(tactic| walk_at "binaryOp Mod int int") => `(tactic| (k_here; (refine' Mine.mod_any ?k1 ?_; (case k1 => first | decide | assumption | omega)); intro r' hr0' hr1'))
local macro_rules | `(tactic| walk_at "exec Raise some none") => `(tactic| (k_here; k_dflt (refine' Mine.raise_hint ?kh ?_; (case kh => exact rfl))))
local macro_rules | `(tactic| walk_at "Hinted ref") => `(tactic| (refine' Mine.hinted ?k1 ?k2 ?_; (case k1 => assumption); (case k2 => k_in)))
local macro_rules | `(tactic| walk_at "leaving ref") => `(tactic| (k_here; k_dflt (refine' Mine.leave_raiseD ?k0 ?k1 ?k2 ?k3 ?_; (case k0 => assumption); (case k1 => assumption); (case k2 => assumption); (case k3 => k_asm); k_whole); intro h' t' S' R' U'; (try dsimp only at S' R' U' ⊢)))
local macro_rules | `(tactic| walk_at "call ref") => `(tactic| (k_here; (with_reducible show wpAny _ _ (call (Value.ref 44) _) _ _ _); k_dflt (refine' Mine.hint_made ?k1 (fun e' h' tk' hx' => ?_); (case k1 => k_in))))
local macro_rules | `(tactic| walk_at "binaryOp Mult int int") => `(tactic| (k_here; k_dflt (refine' Mine.mul_any ?k1 ?k2 ?_; (case k1 => omega); (case k2 => omega))))
local macro_rules | `(tactic| walk_at "call ref") => `(tactic| (k_here; (with_reducible show wpAny _ _ (call (Value.ref 60) _) _ _ _); k_dflt (refine' Mine.cut_ok ?X ?T ?B ?hk ?hd ?hu ?F ?N ?h1 ?h2 ?h3 ?h4 ?h5 (fun told' t' h' tk' hS' F' N' => ?_); (case F => k_asm); (case N => k_asm); (case X => k_asm); (case T => k_asm); (case B => k_asm); (case hk => exact rfl); (case hd => k_room); (case hu => ktr_units); (case h1 => omega); (case h2 => omega); (case h3 => omega); (case h4 => omega); (case h5 => omega)); (unfold Mine.CutSpec at hS'; obtain ⟨s1', s2', s3', s4'⟩ := hS')))
local macro_rules | `(tactic| walk_at "call ref") => `(tactic| (k_here; (with_reducible show wpAny _ _ (call (Value.ref 53) _) _ _ _); k_dflt (refine' Mine.mul_ok ?X ?T ?B ?hk ?hd ?hu ?F ?N ?h1 ?h2 ?h4 ?h5 (fun told' t' h' tk' hS' F' N' => ?_); (case F => k_asm); (case N => k_asm); (case X => k_asm); (case T => k_asm); (case B => k_asm); (case hk => exact rfl); (case hd => k_room); (case hu => ktr_units); (case h1 => omega); (case h2 => omega); (case h4 => omega); (case h5 => omega)); (unfold Mine.MulSpec at hS')))
namespace Mine
theorem dec_eq {p q : Prop} [Decidable p] [Decidable q] (h : p ↔ q) : (decide p == decide q) = true := by simp [h]
theorem ret_true {h₀ : Heap} {L : Addr} {m : Str → Option Value} {news : List (Addr × Obj)} {s : Shared} {Q : Value → Shared → Prop}
  (ret : ∀ (h' : Heap) (tk' : Nat), Fr h₀ L h' m → News h₀ L h' news → Q (.bool true) { s with heap := h', toks := tk' }) {b : Bool} {h' : Heap} {tk' : Nat} (hb : b = true) (F : Fr h₀ L h' m) (N : News h₀ L h' news) :
  Q (.bool b) { s with heap := h', toks := tk' } := by
  subst hb
  exact ret _ _ F N
end Mine
set_option maxRecDepth 100000 in
set_option maxHeartbeats 8000000 in
theorem Mine.right_ok {w : World} {mean : ExcName → Option Value} {mg mb : Str → Option Value} {h₀ : Heap} {cn : Str} {nms : List (Str × NameKind)} {L a : Addr} {ccd : Value}
  (X : (Mine.hd.heap_39 w.params).In h₀) (T : Top Mine.hd.view_39 (looseW Mine.hd.view_39 []) mean mg mb h₀) (B : Below callerA h₀ [] h₀)
  {m : Str → Option Value} {code one other : Int} {tc to tt : Tok} {news : List (Addr × Obj)} {s : Shared} {Q E : Value → Shared → Prop}
  (F : Fr h₀ L s.heap m) (N : News h₀ L s.heap news) (h1 : -(200000000000000000000) ≤ one) (h2 : one ≤ 200000000000000000000) (h3 : -(200000000000000000000) ≤ other) (h4 : other ≤ 200000000000000000000)
  (ret : ∀ (h' : Heap) (tk' : Nat), Fr h₀ L h' m → News h₀ L h' news → Q (.bool true) { s with heap := h', toks := tk' }) :
  wpAny (model Challenge.rw_xm0711_01.row.prog w) (callerA.deeper (envOf cn { kind := .function, names := nms, isGenerator := false, isCoroutine := false } L a ccd)) (call (.ref 109) [.int code tc, .int one to, .int other tt]) Q E s := by
  w_on
  revert X
  k_fill
  intro X
  refine wpAny_call ?_
  k_dflt kts_go
  w_strict (k_steps)
  all_goals (try dsimp only)
  all_goals (refine Mine.ret_true ret ?_ (by assumption) (by first | assumption | exact Mine.news_tail (by assumption) | exact Mine.news_tail (Mine.news_tail (by assumption))))
  all_goals (first | rfl | (simp only [beq_iff_eq, decide_eq_true_eq]; omega) | (exfalso; omega) | (exact Mine.dec_eq (by omega)) | (simp_all; done))
end

-- _law_take and _law_one
section
namespace Mine
theorem mod_any {prog : Program} {w : World} {A : Around} {s : Shared} {E : Value → Shared → Prop} {x d : Int} {t u : Tok} {Q : Value → Shared → Prop} (hd : 0 < d)
    (h : ∀ r : Int, 0 ≤ r → r < d → Q (.int r s.toks) { s with toks := s.toks + 1 }) : wpAny (model prog w) A (binaryOp .Mod (.int x t) (.int d u)) Q E s :=
  PyProof.Rows.mod_int' (by omega) (h _ (Int.fmod_nonneg_of_pos _ hd) (Int.fmod_lt_of_pos _ hd))
theorem getD_in {ns : List Int} {r d lo hi : Int} (hv : ∀ z ∈ ns, lo ≤ z ∧ z ≤ hi) (h0 : 0 ≤ r) (h1 : r < (ns.length : Int)) : lo ≤ ns.getD r.toNat d ∧ ns.getD r.toNat d ≤ hi := by
  have hl : r.toNat < ns.length := by omega
  have e : ns.getD r.toNat d = ns[r.toNat] := by
    rw [List.getD_eq_getElem?_getD, List.getElem?_eq_getElem hl]
    rfl
  rw [e]
  exact hv _ (List.getElem_mem hl)
end Mine
local macro_rules | `(tactic| k_all) => `(tactic| assumption)
local macro_rules | `(tactic| walk_at "subscriptTail Name Constant ref int") => `(tactic| (k_here; (with_reducible show wpAny _ _ (subscriptTail _ _ (Value.ref _) (Value.int _ _)) _ _ _); (with_unfolding_all refine' item_litK ?k1 ?k2 ?k3 ?k4 ?_ ?k6; (case k1 => is_list); (case k2 => decide); (case k3 => decide); (case k4 => rfl); (case k6 => with_unfolding_all rfl); k_whole)))
local macro_rules | `(tactic| walk_at "binaryOp Mod int int") => `(tactic| (k_here; (refine' Mine.mod_any ?k1 ?_; (case k1 => first | decide | assumption | omega)); intro r' hr0' hr1'))
set_option maxRecDepth 100000 in
set_option maxHeartbeats 8000000 in
theorem Mine.one_ok {w : World} {mean : ExcName → Option Value} {mg mb : Str → Option Value} {h₀ : Heap} {cn : Str} {cs : Scope} {L a : Addr} {ccd : Value}
  (X : (Mine.hd.heap_39 w.params).In h₀) (T : Top Mine.hd.view_39 (looseW Mine.hd.view_39 []) mean mg mb h₀) (B : Below callerA h₀ [] h₀) (hk : cs.kind = .function)
  {m : Str → Option Value} {l th : Addr} {x y : Int} {tx ty : Tok} {nn nv : Nat} {vs : List Value} {ns : List Int} {lo hi : Int} {rest : List (Addr × Obj)} {s : Shared} {Q E : Value → Shared → Prop}
  (F : Fr h₀ L s.heap m) (N : News h₀ L s.heap ((l, listOf [.int x tx, .int y ty].toArray nn) :: (th, listOf vs.toArray nv) :: rest)) (hd : ∀ p ∈ rest, p.1 ≠ l) (hne : th ≠ l)
  (hI : IntsAre vs ns) (hv0 : 0 < ns.length) (hv1 : ns.length ≤ 1000) (hv : ∀ z ∈ ns, lo ≤ z ∧ z ≤ hi) (hy : 0 ≤ y) (hy2 : y < 2147483647)
  (ret : ∀ (r x' y' : Int) (tr tx' ty' : Tok) (h' : Heap) (tk' : Nat), lo ≤ r → r ≤ hi → 0 ≤ y' → y' < 2147483647 → Fr h₀ L h' m → News h₀ L h' ((l, listOf [.int x' tx', .int y' ty'].toArray nn) :: (th, listOf vs.toArray nv) :: rest) → Q (.int r tr) { s with heap := h', toks := tk' }) :
  wpAny (model Challenge.rw_xm0711_01.row.prog w) (callerA.deeper (envOf cn cs L a ccd)) (call (.ref 88) [.ref l, .ref th]) Q E s := by
  w_on
  revert X
  k_fill
  intro X
  refine wpAny_call ?_
  k_dflt cell_enter
  w_strict (k_steps)
  all_goals (try dsimp only)
  all_goals (refine ret _ _ _ _ _ _ _ _ ?_ ?_ ?_ ?_ (by assumption) (by assumption) <;> first | assumption | exact (Mine.getD_in hv (by assumption) (by assumption)).1 | exact (Mine.getD_in hv (by assumption) (by assumption)).2)
end

-- _law_take
section
local macro_rules | `(tactic| k_all) => `(tactic| assumption)
local macro_rules | `(tactic| walk_at "subscriptTail Name Constant ref int") => `(tactic| (k_here; (with_reducible show wpAny _ _ (subscriptTail _ _ (Value.ref _) (Value.int _ _)) _ _ _); (with_unfolding_all refine' item_litK ?k1 ?k2 ?k3 ?k4 ?_ ?k6; (case k1 => is_list); (case k2 => decide); (case k3 => decide); (case k4 => rfl); (case k6 => with_unfolding_all rfl); k_whole)))
local macro_rules | `(tactic| walk_at "binaryOp Mod int int") => `(tactic| (k_here; (refine' Mine.mod_any ?k1 ?_; (case k1 => first | decide | assumption)); intro r' hr0' hr1'))
set_option maxRecDepth 100000 in
set_option maxHeartbeats 8000000 in
theorem Mine.take_ok {w : World} {mean : ExcName → Option Value} {mg mb : Str → Option Value} {h₀ : Heap} {cn : Str} {cs : Scope} {L a : Addr} {ccd : Value}
  (X : (Mine.hd.heap_39 w.params).In h₀) (T : Top Mine.hd.view_39 (looseW Mine.hd.view_39 []) mean mg mb h₀) (B : Below callerA h₀ [] h₀) (hk : cs.kind = .function)
  {m : Str → Option Value} {l : Addr} {x y : Int} {tx ty : Tok} {nn : Nat} {rest : List (Addr × Obj)} {s : Shared} {Q E : Value → Shared → Prop} {top : Int} {tt : Tok}
  (F : Fr h₀ L s.heap m) (N : News h₀ L s.heap ((l, listOf [.int x tx, .int y ty].toArray nn) :: rest)) (hd : ∀ p ∈ rest, p.1 ≠ l) (ht : 0 < top) (ht2 : top ≤ 1000) (hy : 0 ≤ y) (hy2 : y < 2147483647)
  (ret : ∀ (r x' y' : Int) (tr tx' ty' : Tok) (h' : Heap) (tk' : Nat), 0 ≤ r → r < top → 0 ≤ y' → y' < 2147483647 → Fr h₀ L h' m → News h₀ L h' ((l, listOf [.int x' tx', .int y' ty'].toArray nn) :: rest) → Q (.int r tr) { s with heap := h', toks := tk' }) :
  wpAny (model Challenge.rw_xm0711_01.row.prog w) (callerA.deeper (envOf cn cs L a ccd)) (call (.ref 81) [.ref l, .int top tt]) Q E s := by
  w_on
  revert X
  k_fill
  intro X
  refine wpAny_call ?_
  k_dflt cell_enter
  w_strict (k_steps)
  all_goals (try dsimp only)
  all_goals (refine ret _ _ _ _ _ _ _ _ ?_ ?_ ?_ ?_ (by assumption) (by assumption) <;> assumption)
end

-- _law_pool
section
local macro_rules | `(tactic| k_all) => `(tactic| assumption)
local macro_rules | `(tactic| walk_at "subscriptTail Name Constant ref int") => `(tactic| (k_here; (with_reducible show wpAny _ _ (subscriptTail _ _ (Value.ref _) (Value.int _ _)) _ _ _); (with_unfolding_all refine' item_litK ?k1 ?k2 ?k3 ?k4 ?_ ?k6; (case k1 => is_list); (case k2 => decide); (case k3 => decide); (case k4 => rfl); (case k6 => with_unfolding_all rfl); k_whole)))
local macro_rules | `(tactic| walk_at "binaryOp Mod int int") => `(tactic| (k_here; (refine' Mine.mod_any ?k1 ?_; (case k1 => first | decide | assumption | omega)); intro r' hr0' hr1'))
set_option maxRecDepth 100000 in
set_option maxHeartbeats 8000000 in
theorem Mine.pool_ok {w : World} {mean : ExcName → Option Value} {mg mb : Str → Option Value} {h₀ : Heap} {cn : Str} {cs : Scope} {L a : Addr} {ccd : Value}
  (X : (Mine.hd.heap_39 w.params).In h₀) (T : Top Mine.hd.view_39 (looseW Mine.hd.view_39 []) mean mg mb h₀) (B : Below callerA h₀ [] h₀) (hk : cs.kind = .function)
  {m : Str → Option Value} {l : Addr} {vs : List Value} {ns : List Int} {s : Shared} {Q E : Value → Shared → Prop}
  (F : Fr h₀ L s.heap m) (N : News h₀ L s.heap []) (hl : h₀.IsList l vs.toArray) (hI : IntsAre vs ns) (hb : ns.length ≤ 1048576)
  (ret : ∀ (d : Addr) (x' y' : Int) (tx' ty' : Tok) (h' : Heap) (tk' : Nat), 0 ≤ y' → y' < 2147483647 → Fr h₀ L h' m → News h₀ L h' [(d, listOf [.int x' tx', .int y' ty'].toArray 0)] → Q (.ref d) { s with heap := h', toks := tk' }) :
  wpAny (model Challenge.rw_xm0711_01.row.prog w) (callerA.deeper (envOf cn cs L a ccd)) (call (.ref 74) [.ref l]) Q E s := by
  w_on
  revert X
  k_fill
  intro X
  refine wpAny_call ?_
  k_dflt cell_enter
  w_strict (k_steps)
  all_goals (try dsimp only)
  all_goals (refine ret _ _ _ _ _ _ _ ?_ ?_ (by assumption) (by assumption) <;> assumption)
end

-- the same over any ledger
section
namespace Mine
def Src (ns : List Int) : Prop := ∃ x y, ns = [x, y] ∧ 0 ≤ y ∧ y < 2147483647
theorem src_mk {x y : Int} (h0 : 0 ≤ y) (h1 : y < 2147483647) : Src [x, y] := ⟨x, y, rfl, h0, h1⟩
theorem two_ints {us : List Value} {x y : Int} (h : IntsAre us [x, y]) : ∃ tx ty, us = [.int x tx, .int y ty] := by
  cases h with
  | cons _ t1 hr => cases hr with
    | cons _ t2 hr => cases hr; exact ⟨t1, t2, rfl⟩
theorem ints_two {x y : Int} {tx ty : Tok} : IntsAre [.int x tx, .int y ty] [x, y] := .cons _ _ (.cons _ _ .nil)
section
variable {w : World} {mean : ExcName → Option Value} {mg mb : Str → Option Value} {h₀ : Heap} {cn : Str} {cs : Scope} {L a : Addr} {ccd : Value}
  {m : Str → Option Value} {l th : Addr} {us : List Value} {ns : List Int} {nn nv : Nat} {news : List (Addr × Obj)} {g : Obj → List (Addr × Obj)} {s : Shared} {Q E : Value → Shared → Prop}
theorem led_in {l : Addr} {o : Obj} {h₀ h : Heap} {L : Addr} {pre post : List (Addr × Obj)} (N : News h₀ L h (pre ++ (l, o) :: post)) : News h₀ L h ((l, o) :: (pre ++ post)) := fun p hp => by
  refine N p ?_
  rcases List.mem_cons.mp hp with rfl | hp
  · exact List.mem_append.mpr (.inr (.head _))
  · rcases List.mem_append.mp hp with hp | hp
    · exact List.mem_append.mpr (.inl hp)
    · exact List.mem_append.mpr (.inr (.tail _ hp))
theorem led_out {l : Addr} {o : Obj} {h₀ h : Heap} {L : Addr} {pre post : List (Addr × Obj)} (N : News h₀ L h ((l, o) :: (pre ++ post))) : News h₀ L h (pre ++ (l, o) :: post) := fun p hp => by
  refine N p ?_
  rcases List.mem_append.mp hp with hp | hp
  · exact .tail _ (List.mem_append.mpr (.inl hp))
  · rcases List.mem_cons.mp hp with rfl | hp
    · exact .head _
    · exact .tail _ (List.mem_append.mpr (.inr hp))
theorem take_led (X : (Mine.hd.heap_39 w.params).In h₀) (T : Top Mine.hd.view_39 (looseW Mine.hd.view_39 []) mean mg mb h₀) (B : Below callerA h₀ [] h₀) (hk : cs.kind = .function)
  {top : Int} {tt : Tok} (F : Fr h₀ L s.heap m) (N : News h₀ L s.heap news) (U : UpdF l (listOf us.toArray nn) news g) (hI : IntsAre us ns) (hS : Src ns) (ht : 0 < top) (ht2 : top ≤ 1000)
  (ret : ∀ (r : Int) (tr : Tok) (us' : List Value) (ns' : List Int) (h' : Heap) (tk' : Nat), 0 ≤ r → r < top → IntsAre us' ns' → Src ns' → Fr h₀ L h' m → News h₀ L h' (g (listOf us'.toArray nn)) → Q (.int r tr) { s with heap := h', toks := tk' }) :
  wpAny (model Challenge.rw_xm0711_01.row.prog w) (callerA.deeper (envOf cn cs L a ccd)) (call (.ref 81) [.ref l, .int top tt]) Q E s := by
  obtain ⟨x, y, rfl, hy, hy2⟩ := hS
  obtain ⟨tx, ty, rfl⟩ := two_ints hI
  obtain ⟨pre, post, rfl, hg, hp, hq⟩ := U.split
  refine take_ok X T B hk F (led_in N) (fun p hp' => (List.mem_append.mp hp').elim (hp p) (hq p)) ht ht2 hy hy2 fun r x' y' tr tx' ty' h' tk' h1 h2 h3 h4 F' N' => ?_
  refine ret r tr [.int x' tx', .int y' ty'] [x', y'] h' tk' h1 h2 ints_two (src_mk h3 h4) F' ?_
  rw [hg]
  exact led_out N'
theorem one_led (X : (Mine.hd.heap_39 w.params).In h₀) (T : Top Mine.hd.view_39 (looseW Mine.hd.view_39 []) mean mg mb h₀) (B : Below callerA h₀ [] h₀) (hk : cs.kind = .function)
  (lo hi : Int) {vs : List Value} {zs : List Int} (F : Fr h₀ L s.heap m) (N : News h₀ L s.heap news) (U : UpdF l (listOf us.toArray nn) news g) (hth : (th, listOf vs.toArray nv) ∈ news) (hne : th ≠ l)
  (hI : IntsAre us ns) (hS : Src ns) (hV : IntsAre vs zs) (hv0 : 0 < zs.length) (hv1 : zs.length ≤ 1000) (hv : ∀ z ∈ zs, lo ≤ z ∧ z ≤ hi)
  (ret : ∀ (r : Int) (tr : Tok) (us' : List Value) (ns' : List Int) (h' : Heap) (tk' : Nat), lo ≤ r → r ≤ hi → IntsAre us' ns' → Src ns' → Fr h₀ L h' m → News h₀ L h' (g (listOf us'.toArray nn)) → Q (.int r tr) { s with heap := h', toks := tk' }) :
  wpAny (model Challenge.rw_xm0711_01.row.prog w) (callerA.deeper (envOf cn cs L a ccd)) (call (.ref 88) [.ref l, .ref th]) Q E s := by
  obtain ⟨x, y, rfl, hy, hy2⟩ := hS
  obtain ⟨tx, ty, rfl⟩ := two_ints hI
  obtain ⟨pre, post, rfl, hg, hp, hq⟩ := U.split
  have N₁ : News h₀ L s.heap ((l, listOf [Value.int x tx, Value.int y ty].toArray nn) :: (th, listOf vs.toArray nv) :: (pre ++ post)) := fun p hp' => by
    rcases List.mem_cons.mp hp' with rfl | hp'
    · exact led_in N _ (.head _)
    · rcases List.mem_cons.mp hp' with rfl | hp'
      · exact N _ hth
      · exact led_in N _ (.tail _ hp')
  refine one_ok X T B hk F N₁ (fun p hp' => (List.mem_append.mp hp').elim (hp p) (hq p)) hne hV hv0 hv1 hv hy hy2 fun r x' y' tr tx' ty' h' tk' h1 h2 h3 h4 F' N' => ?_
  refine ret r tr [.int x' tx', .int y' ty'] [x', y'] h' tk' h1 h2 ints_two (src_mk h3 h4) F' ?_
  rw [hg]
  refine led_out fun p hp' => N' p ?_
  rcases List.mem_cons.mp hp' with rfl | hp'
  · exact .head _
  · exact .tail _ (.tail _ hp')
end
theorem pow_ten {prog : Program} {w : World} {A : Around} {s : Shared} {E : Value → Shared → Prop} {t u : Tok} {Q : Value → Shared → Prop} (h : Q (.int 100000000000000000000 s.toks) { s with toks := s.toks + 1 }) :
    wpAny (model prog w) A (binaryOp .Pow (.int 10 t) (.int 20 u)) Q E s := by
  refine PyProof.Rows.pow_int_small (by decide) (by decide) (by decide) ?_
  rw [show (10 : Int) ^ Int.toNat 20 = 100000000000000000000 from by decide]
  exact h
theorem mul_sign {prog : Program} {w : World} {A : Around} {s : Shared} {E : Value → Shared → Prop} {x y : Int} {t u : Tok} {Q : Value → Shared → Prop}
    (hx0 : -(100000000000000000032) ≤ x) (hx1 : x ≤ 100000000000000000032) (hy0 : -1 ≤ y) (hy1 : y ≤ 1)
    (h : ∀ r : Int, -(100000000000000000032) ≤ r → r ≤ 100000000000000000032 → Q (.int r s.toks) { s with toks := s.toks + 1 }) : wpAny (model prog w) A (binaryOp .Mult (.int x t) (.int y u)) Q E s := by
  refine mul_any (by omega) (by omega) (h _ ?_ ?_)
  · rcases (by omega : y = -1 ∨ y = 0 ∨ y = 1) with rfl | rfl | rfl <;> omega
  · rcases (by omega : y = -1 ∨ y = 0 ∨ y = 1) with rfl | rfl | rfl <;> omega
theorem ints_here {M : Model} {A : Around} {s : Shared} {E : Value → Shared → Prop} {Q : Value → Shared → Prop} {h₀ : Heap} {L l : Addr} {vs : List Value} {ns : List Int} {nn : Nat} {news : List (Addr × Obj)} (N : News h₀ L s.heap news) (hm : (l, listOf vs.toArray nn) ∈ news) (hi : IntsAre vs ns)
    (k : IntsAre vs ns → wpAny M A (pyIter (.ref l)) Q E s) : wpAny M A (pyIter (.ref l)) Q E s := k hi
end Mine
end

-- the law
local macro_rules | `(tactic| walk_at "binaryOp Pow int int") => `(tactic| (k_here; refine Mine.pow_ten ?_))
local macro_rules | `(tactic| walk_at "binaryOp Mult int int") => `(tactic| (k_here; k_dflt (refine' Mine.mul_sign ?k1 ?k2 ?k3 ?k4 (fun r' hr0' hr1' => ?_); (case k1 => omega); (case k2 => omega); (case k3 => omega); (case k4 => omega))))
local macro_rules | `(tactic| walk_at "call ref") => `(tactic| (k_here; (with_reducible show wpAny _ _ (call (Value.ref 109) _) _ _ _); k_dflt (refine' Mine.right_ok ?X ?T ?B ?F ?N ?h1 ?h2 ?h3 ?h4 (fun h' tk' F' N' => ?_); (case F => k_asm); (case N => k_asm); (case X => k_asm); (case T => k_asm); (case B => k_asm); (case h1 => omega); (case h2 => omega); (case h3 => omega); (case h4 => omega))))
local macro_rules | `(tactic| walk_at "call ref") => `(tactic| (k_here; (with_reducible show wpAny _ _ (call (Value.ref 74) _) _ _ _); k_dflt (refine' Mine.pool_ok ?X ?T ?B ?hk ?F ?N ?hl ?hI ?hb (fun d' x' y' tx' ty' h' tk' hy0' hy1' F' N' => ?_); (case F => k_asm); (case N => k_asm); (case X => k_asm); (case T => k_asm); (case B => k_asm); (case hk => exact rfl); (case hl => k_asm); (case hI => k_asm); (case hb => omega))))
local macro_rules | `(tactic| walk_at "call ref") => `(tactic| (k_here; (with_reducible show wpAny _ _ (call (Value.ref 81) _) _ _ _); k_dflt (refine' Mine.take_led ?X ?T ?B ?hk ?F ?N ?U ?hI ?hS ?h1 ?h2 (fun r' tr' us' ns' h' tk' hr0' hr1' hI' hS' F' N' => ?_); (case F => k_asm); (case N => k_asm); (case X => k_asm); (case T => k_asm); (case B => k_asm); (case hk => exact rfl); (case U => k_updF); (case hI => k_asm); (case hS => k_asm); (case h1 => decide); (case h2 => decide)); (try dsimp only at N')))
local macro_rules | `(tactic| walk_at "call ref") => `(tactic| (k_here; (with_reducible show wpAny _ _ (call (Value.ref 88) _) _ _ _); k_dflt (first
  | (refine' Mine.one_led ?X ?T ?B ?hk (-1) 1 ?F ?N ?U ?hth ?hne ?hI ?hS ?hV ?h1 ?h2 ?hv (fun r' tr' us' ns' h' tk' hr0' hr1' hI' hS' F' N' => ?_); (case F => k_asm); (case N => k_asm); (case X => k_asm); (case T => k_asm); (case B => k_asm); (case hk => exact rfl); (case U => k_updF); (case hth => k_mem); (case hne => k_ne); (case hI => k_asm); (case hS => k_asm); (case hV => l_ints); (case h1 => exact Nat.le_of_ble_eq_true rfl); (case h2 => exact Nat.le_of_ble_eq_true rfl); (case hv => (intro z hz; simp only [List.mem_cons, List.mem_append, List.not_mem_nil, or_false] at hz; omega)))
  | (refine' Mine.one_led ?X ?T ?B ?hk (-(100000000000000000032)) 100000000000000000032 ?F ?N ?U ?hth ?hne ?hI ?hS ?hV ?h1 ?h2 ?hv (fun r' tr' us' ns' h' tk' hr0' hr1' hI' hS' F' N' => ?_); (case F => k_asm); (case N => k_asm); (case X => k_asm); (case T => k_asm); (case B => k_asm); (case hk => exact rfl); (case U => k_updF); (case hth => k_mem); (case hne => k_ne); (case hI => k_asm); (case hS => k_asm); (case hV => l_ints); (case h1 => exact Nat.le_of_ble_eq_true rfl); (case h2 => exact Nat.le_of_ble_eq_true rfl); (case hv => (intro z hz; simp only [List.mem_cons, List.mem_append, List.not_mem_nil, or_false] at hz; omega)))); (try dsimp only at N')))
set_option maxRecDepth 100000 in
set_option maxHeartbeats 8000000 in
theorem PySem.Challenge.cw_xm0711_01_holds : PySem.Challenge.rw_xm0711_01.Holds := by
  refine Mine.hd ?_
  (k_with "exec For Name Call cons nil" => kpr_for)
  (k_with "pyIter ref" => first | k_state_short (fun pre src => Mine.Src src) "source" | (k_dflt (refine' Mine.ints_here ?N ?hm ?hi (fun hi' => ?_); (case N => k_asm); (case hm => k_mem); (case hi => l_ints)); k_state_short (fun pre src => Mine.Src src) "source"))
  (k_with "state" => exact Mine.src_mk (by assumption) (by assumption))
  w_on
  w_strict (k_go0; (all_goals try k_fold); k_steps)

