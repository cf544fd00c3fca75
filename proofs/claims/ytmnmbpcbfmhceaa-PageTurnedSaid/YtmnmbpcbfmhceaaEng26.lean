/-
  THE ENGINE, 26: from a contract in the small machine to the statement of a law: for every input it returns true, and its arguments read as they did. Nothing here speaks of one program.
-/
import Derived.Test.YtmnmbpcbfmhceaaEng24
import Derived.ProofKit
set_option linter.unusedSimpArgs false
set_option linter.unusedVariables false
namespace Go.Eng
open Go.ChangeShapes Go.WideShapes Go.ChangeAt Go.RowKit

/-- What an argument may be. -/
def argOK (P : Program) (t : TypeId) (x : AV) : Prop :=
  match P.underlying t with
  | some (.struct _) | some (.array _ _) => ∃ xs ss, x = .g xs ∧ shapes P 10 t = some ss ∧ isShs ss xs
  | _ => ∃ c ss, x = .c c ∧ shapes P 10 t = some ss ∧ isShs ss [c]

def argsOK (P : Program) : List TypeId → List AV → Prop
  | [], xs => xs = []
  | t :: ts, xs => ∃ x l, xs = x :: l ∧ argOK P t x ∧ argsOK P ts l

section
variable {H : Type} {enc : TypeId × Value → H} {P : Program} {w : World} {base : Nat}

theorem arg_rc {b0 : Nat} {t : TypeId} {v : Value} {d : DataW H} {p : List MemPlace} (hs : (shapes P 10 t).isSome = true) (hok : Value.okWide P w .any b0 t v) (h : DataW.Trod enc P w base (fun _ => true) true t v d p)
    (hwt : ∀ n ∈ d.weights P t, n ≤ reachBytes) : ∃ x, RA1 w (fun _ _ => False) (fun _ => 0) x v ∧ argOK P t x := by
  obtain ⟨ss, hss⟩ := Option.isSome_iff_exists.1 hs
  obtain ⟨fuel, hf⟩ := h
  obtain ⟨xs, h1, h2⟩ := trod_rc 10 t ss fuel _ _ hss hf hwt
  have hagg : ∀ cs, v = .agg cs → (∃ fs, P.underlying t = some (.struct fs)) ∨ (∃ n e, P.underlying t = some (.array n e)) → ∃ x, RA1 w (fun _ _ => False) (fun _ => 0) x v ∧ argOK P t x := by
    rintro cs rfl hu
    refine ⟨.g xs, ⟨cs, rfl, h1⟩, ?_⟩
    rcases hu with ⟨fs, hu⟩ | ⟨n, e, hu⟩ <;> (unfold argOK; rw [hu]; exact ⟨xs, ss, rfl, hss, h2⟩)
  have hcell : v.cells.toList = [v] → (∀ fs, P.underlying t ≠ some (.struct fs)) → (∀ n e, P.underlying t ≠ some (.array n e)) → ∃ x, RA1 w (fun _ _ => False) (fun _ => 0) x v ∧ argOK P t x := by
    intro hv hn1 hn2
    rw [hv] at h1
    match xs, h1, h2 with
    | [x], h1, h2 =>
      refine ⟨.c x, h1.1, ?_⟩
      unfold argOK
      split
      · rename_i fs hu; exact absurd hu (hn1 fs)
      · rename_i n e hu; exact absurd hu (hn2 n e)
      · exact ⟨x, ss, rfl, hss, h2⟩
    | [], h1, _ => exact h1.elim
    | _ :: _ :: _, h1, _ => exact h1.2.elim
  unfold Value.okWide at hok
  split at hok
  · rename_i fs hu
    obtain ⟨cs, rfl, _⟩ := hok
    exact hagg cs rfl (.inl ⟨fs, hu⟩)
  · rename_i n e hu
    obtain ⟨cs, rfl, _⟩ := hok
    exact hagg cs rfl (.inr ⟨n, e, hu⟩)
  · rename_i hn1 hn2
    refine hcell ?_ (fun fs hu => hn1 fs hu) (fun n e hu => hn2 n e hu)
    cases v with
    | agg cs =>
      exfalso
      unfold Cell.okWide Cell.ok at hok
      cases hu : P.underlying t with
      | none => rw [hu] at hok; exact hok
      | some u => rw [hu] at hok; cases u <;> exact hok
    | _ => rfl

theorem args_rc : ∀ {ts : List TypeId} {vs : List Value} {ds : List (DataW H)} {p : List MemPlace} {b0 : Nat}, (∀ t ∈ ts, (shapes P 10 t).isSome = true) → (∀ (j : Nat) t v, ts[j]? = some t → vs[j]? = some v → Value.okWide P w .any b0 t v) →
    DataW.TrodAll enc P w base (fun _ => true) true ts vs ds p → (∀ n ∈ DataW.weightsEach P ts ds, n ≤ reachBytes) → ∃ xs, RAcs w (fun _ _ => False) xs vs ∧ argsOK P ts xs
  | [], [], [], _, _, _, _, _, _ => ⟨[], trivial, rfl⟩
  | t :: ts, v :: vs, d :: ds, _, b0, hs, hok, h, hwt => by
    obtain ⟨p, q, h1, h2, _⟩ := h
    rw [DataW.weightsEach] at hwt
    obtain ⟨x, k1, k2⟩ := arg_rc (hs t (by simp)) (hok 0 t v (by simp) (by simp)) h1 (fun n hn => hwt n (List.mem_append_left _ hn))
    obtain ⟨xs, k3, k4⟩ := args_rc (fun t ht => hs t (by simp [ht])) (fun j t v h1 h2 => hok (j + 1) t v (by simpa using h1) (by simpa using h2)) h2 (fun n hn => hwt n (List.mem_append_right _ hn))
    exact ⟨x :: xs, ⟨k1, k3⟩, x, xs, rfl, k2, k4⟩
  | [], _ :: _, _, _, _, _, _, h, _ => h.elim
  | [], [], _ :: _, _, _, _, _, h, _ => h.elim
  | _ :: _, [], _, _, _, _, _, h, _ => h.elim
  | _ :: _, _ :: _, [], _, _, _, _, h, _ => h.elim

theorem trodAll_stays (hl : laidOutB P = true) {W W' : World} (hb : Below W.heap.size W W') {sp' : Nat → Bool} : ∀ {ts : List TypeId} {vs : List Value} {ds : List (DataW H)} {ps : List MemPlace}, (∀ t ∈ ts, P.readableRec t = true ∧ t < P.types.size) →
    DataW.TrodAll enc P W 0 (fun _ => true) true ts vs ds ps → (∀ p ∈ ps, p.block < W.heap.size) → (∀ p ∈ ps, sp' p.block = true) → DataW.TrodAll enc P W' 0 sp' true ts vs ds ps
  | [], [], [], _, _, h, _, _ => h
  | t :: ts, v :: vs, d :: ds, _, hr, h, hlt, hsp => by
    obtain ⟨p, q, h1, h2, rfl⟩ := h
    refine ⟨p, q, ?_, trodAll_stays hl hb (fun t ht => hr t (by simp [ht])) h2 (fun x hx => hlt x (List.mem_append_right _ hx)) (fun x hx => hsp x (List.mem_append_right _ hx)), rfl⟩
    exact WideElems.Trod_stays hl (hr t (by simp)).1 (hr t (by simp)).2 h1 (fun x hx => hb.same (hlt x (List.mem_append_left _ hx))) (fun x hx => hsp x (List.mem_append_left _ hx))
  | [], _ :: _, _, _, _, h, _, _ => h.elim
  | [], [], _ :: _, _, _, h, _, _ => h.elim
  | _ :: _, [], _, _, _, h, _, _ => h.elim
  | _ :: _, _ :: _, [], _, _, h, _, _ => h.elim

theorem trodAll_len {w : World} {b : Nat} {sp : Nat → Bool} {hd : Bool} : ∀ {ts : List TypeId} {vs : List Value} {ds : List (DataW H)} {ps : List MemPlace}, DataW.TrodAll enc P w b sp hd ts vs ds ps → ds.length = ts.length
  | [], [], [], _, _ => rfl
  | _ :: _, _ :: _, _ :: _, _, h => by obtain ⟨p, q, _, h2, _⟩ := h; simp [trodAll_len h2]
  | [], _ :: _, _, _, h => h.elim
  | [], [], _ :: _, _, h => h.elim
  | _ :: _, [], _, _, h => h.elim
  | _ :: _, _ :: _, [], _, h => h.elim

/-- A call that begins with nothing of its own leaves alone what was there. -/
theorem acalls_below {f : FuncId} {xs : List AV} {vs : List Value} (h : ACalls P f xs (fun _ => none) (fun v _ => v = B true)) (hv : RAcs w (fun _ _ => False) xs vs) :
    Calls P f vs.toArray w fun e w' => e = .returned (.bool true) ∧ Below w.heap.size w w' := by
  have hA : authR (fun _ _ => False) (fun _ => none) = fun _ _ => False := by
    funext b o
    simp [authR, authH]
  refine (h (fun _ _ => False) w vs (fun b o hf => hf.elim) (fun b o hb => by cases hb) (by rw [hA]; exact hv)).mono ?_
  rintro e w' ⟨v, H', u, rfl, _, rfl, hu, hb⟩
  have : u = .bool true := by
    cases hu with
    | p v h => rfl
  subst this
  refine ⟨rfl, hb.frm.os, hb.frm.tape, hb.frm.output, hb.frm.size, fun k hk => hb.frm.blk k hk (fun o ho => ?_)⟩
  exact ho

theorem post_of_below {f : Func} {s : ChangeSpec} {apart fresh handsOn again : Bool} {W W' : World} {args : Array Value} {v : Value} {ds gs : List (DataW H)} {before pa pv : List MemPlace}
    (hW : DataW.Whole enc P f.params.toList s.vars apart W args.toList ds gs before)
    (hres : ∀ (b : Nat) (sp : Nat → Bool) (hd : Bool), DataW.TrodAll enc P W' b sp hd f.resultTypes.toList (v.resultList f.resultTypes.size) (s.fn H (ds ++ gs)).results [])
    (hargs : ∀ sp : Nat → Bool, (∀ p ∈ before, sp p.block = true) → DataW.TrodAll enc P W' 0 sp true f.params.toList args.toList (s.fn H (ds ++ gs)).args pa)
    (hvars : ∀ sp : Nat → Bool, (∀ p ∈ before, sp p.block = true) → DataW.TrodVars enc P W' sp s.vars (s.fn H (ds ++ gs)).vars pv)
    (hps : before = pa ++ pv) (hb : Below W.heap.size W W')
    (hok : ∀ (j : Nat) (t : TypeId) (r : Value), f.resultTypes[j]? = some t → (v.resultList f.resultTypes.size)[j]? = some r → Value.okWide P W' .any 0 t r) :
    s.post enc P f apart fresh handsOn again W args v W' := by
  have hlt : ∀ p ∈ before, p.block < W.heap.size := fun p hp => hW.lt p hp
  have hold : ∀ p ∈ before, (fun b => decide (b < W.heap.size)) p.block = true := fun p hp => by simpa using hlt p hp
  refine ⟨ds, gs, before, [], pa, pv, hW, hres _ _ _, hargs _ hold, hvars _ hold, World.keptBut_mono (fun p hp => ⟨hp, ?_⟩) (hb.frame (· ∈ before)), fun _ => ?_⟩
  · rw [hps, List.mem_append] at hp
    exact Or.inr hp
  · obtain ⟨_, _, _, _, _, hz, hn⟩ := hW
    refine ⟨hok, _, _, ([] ++ pa) ++ pv, ⟨[] ++ pa, pv, trodAll_append (hargs _ (fun _ _ => rfl)) (hres _ _ _), hvars _ (fun _ _ => rfl), rfl, ?_, ?_⟩, ?_⟩
    · intro b off hp
      have hin : MemPlace.cell b off ∈ before := by rw [hps]; simpa using hp
      rw [hb.frozen (hlt _ hin)]
      exact hz b off hin
    · intro ha
      have := hn ha
      rw [hps] at this
      simpa using this
    · intro p hp _
      rw [hps]
      simpa using hp

theorem law_lifted {C : Checked} {os : Os} {f : FuncId} {fn : Func} {s : ChangeSpec} {tb : TypeId}
    (own : ownKnob C.prog.godebug = none) (started : os.Started) (noInit : C.prog.inits.idxOf? f = none) (hfn : C.prog.funcs[f]? = some fn)
    (witness : ∃ (w : World) (tape : Tape) (i : Input), w.os = os ∧ (w.forCall tape i).Shaped C.prog ∧ i.vars = [] ∧ Input.okWide C.prog (w.forCall tape i) .any w.heap.size f i ∧
      s.pre6 enc C.prog fn [] false (w.forCall tape i).memory i.args ∧ ({} : Assume).holds C.prog (lone (Frame.enter C.prog f i.args .normal) [] (w.forCall tape i)))
    (hvars : s.vars = []) (hplain : s.plain.varTypes C.prog = []) (hspec : ∀ ds : List (DataW H), ds.length = fn.params.size → s.fn H ds = { results := [.lit (.bool true)], args := ds })
    (hres : fn.resultTypes = #[tb]) (htb : C.prog.underlying tb = some .bool) (hl : laidOutB C.prog = true)
    (hp : (fn.params.toList.all fun t => C.prog.readableRec t && decide (t < C.prog.types.size) && (shapes C.prog 10 t).isSome) = true)
    (walk : ∀ xs, argsOK C.prog fn.params.toList xs → ACalls C.prog f xs (fun _ => none) (fun v _ => v = B true)) :
    ReturnsInHanded {} C os f .any (s.pre6 enc C.prog fn [] false) (s.post enc C.prog fn false true false false) := by
  have hp' : ∀ t ∈ fn.params.toList, (C.prog.readableRec t = true ∧ t < C.prog.types.size) ∧ (shapes C.prog 10 t).isSome = true := fun t ht => by
    have := List.all_eq_true.1 hp t ht
    simpa [Bool.and_eq_true, decide_eq_true_eq] using this
  refine returnsInHanded_of_change_sized (C := C) own started noInit hfn witness ?_
  intro W base args ds gs before hval hW hcnd hwt _
  have hW' := hW
  obtain ⟨p, q, hA, hV, rfl, hfz, hnd⟩ := hW
  rw [hvars] at hV
  obtain ⟨rfl, rfl⟩ := trodVars_none hV
  rw [hplain] at hwt
  simp only [List.append_nil] at hwt hW'
  have hwt' : ∀ n ∈ DataW.weightsEach C.prog fn.params.toList ds, n ≤ reachBytes := fun n hn => by
    have := List.all_eq_true.1 hwt n hn
    simpa using this
  obtain ⟨xs, h1, h2⟩ := args_rc (fun t ht => (hp' t ht).2) (fun j t v h1 h2 => hval j t v (by rwa [Array.getElem?_toList] at h1) (by rwa [Array.getElem?_toList] at h2)) hA hwt'
  have hlen : ds.length = fn.params.size := by rw [trodAll_len hA]; simp
  have := acalls_below (walk xs h2) h1
  refine this.mono fun e W' ⟨he, hb⟩ => ⟨.bool true, he, ?_⟩
  have hold : ∀ x ∈ p, x.block < W.heap.size := fun x hx => hW'.lt x hx
  have hsp := hspec ds hlen
  have hr1 : ∀ (b : Nat) (sp : Nat → Bool) (hd : Bool), DataW.TrodAll enc C.prog W' b sp hd fn.resultTypes.toList ((Value.bool true).resultList fn.resultTypes.size) [.lit (.bool true)] [] := fun b sp hd => by
    rw [hres]; exact trodAll_mk1 (shut_bool htb true)
  have hr2 : ∀ sp : Nat → Bool, (∀ x ∈ p, sp x.block = true) → DataW.TrodAll enc C.prog W' 0 sp true fn.params.toList args.toList ds p := fun sp hsp' => trodAll_stays hl hb (fun t ht => (hp' t ht).1) hA hold hsp'
  have hok : ∀ (j : Nat) (t : TypeId) (r : Value), fn.resultTypes[j]? = some t → ((Value.bool true).resultList fn.resultTypes.size)[j]? = some r → Value.okWide C.prog W' .any 0 t r := ok_one hres rfl (okWide_bool_mk htb true)
  refine post_of_below (pa := p) (pv := []) hW' ?_ ?_ ?_ (by simp) hb hok
  · rw [List.append_nil, hsp]; exact hr1
  · rw [List.append_nil, hsp]; exact fun sp hsp' => hr2 sp hsp'
  · rw [List.append_nil, hsp, hvars]; exact fun _ _ => rfl
end

/-! ### What an argument is -/

def aggB (P : Program) (t : TypeId) : Bool := match P.underlying t with
  | some (.struct _) | some (.array _ _) => true
  | _ => false
theorem argOK_g {P : Program} {t : TypeId} {x : AV} {ss : List Sh} (hg : aggB P t = true) (hs : shapes P 10 t = some ss) (h : argOK P t x) : ∃ xs, x = .g xs ∧ isShs ss xs := by
  unfold argOK at h
  unfold aggB at hg
  split at h
  · obtain ⟨xs, ss', rfl, h1, h2⟩ := h; rw [hs] at h1; cases h1; exact ⟨xs, rfl, h2⟩
  · obtain ⟨xs, ss', rfl, h1, h2⟩ := h; rw [hs] at h1; cases h1; exact ⟨xs, rfl, h2⟩
  · rename_i h1 h2; split at hg
    · rename_i hu; exact absurd hu (h1 _)
    · rename_i hu; exact absurd hu (h2 _ _)
    · cases hg
theorem argOK_c {P : Program} {t : TypeId} {x : AV} {sh : Sh} (hg : aggB P t = false) (hs : shapes P 10 t = some [sh]) (h : argOK P t x) : ∃ c, x = .c c ∧ isSh sh c := by
  unfold argOK at h
  unfold aggB at hg
  split at h
  · rename_i hu; rw [hu] at hg; cases hg
  · rename_i hu; rw [hu] at hg; cases hg
  · obtain ⟨c, ss', rfl, h1, h2⟩ := h
    rw [hs] at h1; cases h1
    simp only [isShs] at h2
    obtain ⟨x, l, e, h3, _⟩ := h2
    cases e
    exact ⟨_, rfl, h3⟩

theorem sh_8 {x : CV} (h : isSh (.i .u8) x) : ∃ v : UInt8, x = b8 v := by
  simp only [isSh, Lit.wf, Bool.and_eq_true, decide_eq_true_eq] at h
  obtain ⟨n, ⟨h1, h2⟩, rfl⟩ := h
  have h1' : (0 : Int) ≤ n := h1
  have h2' : n ≤ 255 := h2
  refine ⟨UInt8.ofNat n.toNat, ?_⟩
  have : (UInt8.ofNat n.toNat).toNat = n.toNat := by rw [UInt8.toNat_ofNat']; omega
  unfold b8
  rw [this, Int.toNat_of_nonneg h1']
theorem sh_bv (k : IntKind) (m : Nat) (f : BitVec m → CV) (hf : ∀ v, f v = .p (.int k v.toNat)) (h0 : k.min = 0) (h1 : k.max = 2 ^ m - 1) {x : CV} (h : isSh (.i k) x) : ∃ v : BitVec m, x = f v := by
  simp only [isSh, Lit.wf, Bool.and_eq_true, decide_eq_true_eq] at h
  obtain ⟨n, ⟨a, b⟩, rfl⟩ := h
  rw [h0] at a
  rw [h1] at b
  have hp : (0 : Int) < 2 ^ m := Int.pow_pos (by decide)
  refine ⟨BitVec.ofNat m n.toNat, ?_⟩
  rw [hf, BitVec.toNat_ofNat, Nat.mod_eq_of_lt, Int.toNat_of_nonneg a]
  have : n < ((2 ^ m : Nat) : Int) := by
    have e : ((2 ^ m : Nat) : Int) = (2 : Int) ^ m := by simp
    rw [e]; omega
  omega
theorem sh_16 {x : CV} (h : isSh (.i .u16) x) : ∃ v : BitVec 16, x = c16 v := sh_bv .u16 16 c16 (fun _ => rfl) rfl rfl h
theorem sh_32 {x : CV} (h : isSh (.i .u32) x) : ∃ v : BitVec 32, x = c32 v := sh_bv .u32 32 c32 (fun _ => rfl) rfl rfl h
theorem sh_64 {x : CV} (h : isSh (.i .u64) x) : ∃ v : BitVec 64, x = c64 v := sh_bv .u64 64 c64 (fun _ => rfl) rfl rfl h
theorem sh_int {x : CV} (h : isSh (.i .i64) x) : ∃ n : Int, -9223372036854775808 ≤ n ∧ n < 9223372036854775808 ∧ x = .p (.int .i64 n) := by
  simp only [isSh, Lit.wf, Bool.and_eq_true, decide_eq_true_eq] at h
  obtain ⟨n, ⟨a, b⟩, rfl⟩ := h
  have a' : (-9223372036854775808 : Int) ≤ n := a
  have b' : n ≤ 9223372036854775807 := b
  exact ⟨n, a', by omega, rfl⟩
theorem sh_bytes : ∀ (n : Nat) {xs : List CV}, isShs (List.replicate n (.i .u8)) xs → ∃ l : List UInt8, l.length = n ∧ xs = l.map b8
  | 0, xs, h => by simp only [List.replicate_zero, isShs] at h; subst h; exact ⟨[], rfl, rfl⟩
  | n + 1, xs, h => by
    simp only [List.replicate_succ, isShs] at h
    obtain ⟨x, l, rfl, h1, h2⟩ := h
    obtain ⟨v, rfl⟩ := sh_8 h1
    obtain ⟨l', h3, rfl⟩ := sh_bytes n h2
    exact ⟨v :: l', by simp [h3], rfl⟩

end Go.Eng
