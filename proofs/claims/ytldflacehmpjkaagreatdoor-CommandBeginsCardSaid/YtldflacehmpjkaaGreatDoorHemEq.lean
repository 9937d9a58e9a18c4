import Derived.Test.YtldflacehmpjkaaGreatDoorHemA
import Derived.Laws.StructEq
set_option linter.unusedVariables false
namespace Go.Hem
inductive SK where
  | int | bool | str
def eqK : List SK→List AV→List AV→Option Bool
  | [],[],[] => some true
  | .int :: ks,.sc (.int k a) :: l,.sc (.int k' b) :: m => if k = k' then (eqK ks l m).map fun r => decide (a = b) && r else none
  | .bool :: ks,.sc (.bool a) :: l,.sc (.bool b) :: m => (eqK ks l m).map fun r => (a == b) && r
  | .str :: ks,.sc (.str a) :: l,.sc (.str b) :: m => (eqK ks l m).map fun r => (a.toList == b.toList) && r
  | _,_,_ => none
def eqS : List SK→List AV→List AV→Option Bool
  | [],[],[] => some true
  | .int :: ks,.sym :: l,.sym :: m => eqS ks l m
  | .int :: ks,.sym :: l,.sc (.int k _) :: m => if k = .i64∧eqS ks l m = some false then some false else none
  | .int :: ks,.sc (.int k _) :: l,.sym :: m => if k = .i64∧eqS ks l m = some false then some false else none
  | .int :: ks,.sc (.int k a) :: l,.sc (.int k' b) :: m => if k = k' then (eqS ks l m).map fun r => decide (a = b) && r else none
  | .bool :: ks,.sc (.bool a) :: l,.sc (.bool b) :: m => (eqS ks l m).map fun r => (a == b) && r
  | .str :: ks,.sc (.str a) :: l,.sc (.str b) :: m => (eqS ks l m).map fun r => (a.toList == b.toList) && r
  | _,_,_ => none
def AV.ins1 (σ : Int) : AV→AV
  | .sym => .sc (.int .i64 σ)
  | v => v
def AV.ins (σ : Int) : AV→AV
  | .sym => .sc (.int .i64 σ)
  | .agg cs => .agg (cs.map (AV.ins1 σ))
  | v => v
theorem eqS_ins (σ : Int) : ∀ {ks : List SK} {xs ys : List AV} {r : Bool},eqS ks xs ys = some r→eqK ks (xs.map (AV.ins1 σ)) (ys.map (AV.ins1 σ)) = some r
  | [],[],[],r,h => h
  | .int :: ks,.sym :: l,.sym :: m,r,h => by
    simp only [eqS] at h
    simp only [List.map_cons,AV.ins1,eqK,if_true,eqS_ins σ h,Option.map_some,decide_true,Bool.true_and]
  | .int :: ks,.sym :: l,.sc (.int k b) :: m,r,h => by
    simp only [eqS] at h
    split at h
    · rename_i q
      obtain ⟨rfl,q⟩:=q
      cases h
      simp only [List.map_cons,AV.ins1,eqK,if_true,eqS_ins σ q,Option.map_some,Bool.and_false]
    · cases h
  | .int :: ks,.sc (.int k a) :: l,.sym :: m,r,h => by
    simp only [eqS] at h
    split at h
    · rename_i q
      obtain ⟨rfl,q⟩:=q
      cases h
      simp only [List.map_cons,AV.ins1,eqK,if_true,eqS_ins σ q,Option.map_some,Bool.and_false]
    · cases h
  | .int :: ks,.sc (.int k a) :: l,.sc (.int k' b) :: m,r,h => by
    simp only [eqS] at h
    split at h
    · rename_i q
      simp only [Option.map_eq_some_iff] at h
      obtain ⟨u,hu,rfl⟩:=h
      simp only [List.map_cons,AV.ins1,eqK,if_pos q,eqS_ins σ hu,Option.map_some]
    · cases h
  | .bool :: ks,.sc (.bool a) :: l,.sc (.bool b) :: m,r,h => by
    simp only [eqS,Option.map_eq_some_iff] at h
    obtain ⟨u,hu,rfl⟩:=h
    simp only [List.map_cons,AV.ins1,eqK,eqS_ins σ hu,Option.map_some]
  | .str :: ks,.sc (.str a) :: l,.sc (.str b) :: m,r,h => by
    simp only [eqS,Option.map_eq_some_iff] at h
    obtain ⟨u,hu,rfl⟩:=h
    simp only [List.map_cons,AV.ins1,eqK,eqS_ins σ hu,Option.map_some]
def flatFs (P : Program) (g : TypeId→Option (List SK)) : List Field→Nat→Option (List SK)
  | [],_ => some []
  | f :: fs, o => if f.offset = o ∧ f.name ≠ "_" then (g f.type).bind fun ks => if szOf P f.type = some ks.length then (flatFs P g fs (o + ks.length)).map (ks ++ ·) else none else none
def flatAs (ks : List SK) : Nat→List SK
  | 0 => []
  | n + 1 => ks ++ flatAs ks n
def flatK (P : Program) : Nat→TypeId→Option (List SK)
  | 0,_ => none
  | d + 1,t =>
    match P.underlying t with
    | some (.int _) => some [.int]
    | some .bool => some [.bool]
    | some .string => some [.str]
    | some (.struct fs) => if P.stoodInHeld t = true then none else flatFs P (flatK P d) fs.toList 0
    | some (.array n e) => (flatK P d e).bind fun ks => if szOf P e = some ks.length then some (flatAs ks n) else none
    | _ => none
theorem pureSem_bind {P : Program} {α β : Type} {s : Sem α} {f : α→Sem β} {u : α} (h : pureSem P s = some u) : pureSem P (s >>= f) = pureSem P (f u):=by
  induction s with
  | pure a => simp [pureSem] at h; subst h; rfl
  | program k ih => exact ih P h
  | mark m k ih => exact ih h
  | _ => simp [pureSem] at h
theorem pureSem_und {P : Program} {T : TypeId} {d : TypeDesc} (h : P.underlying T = some d) : pureSem P (underlying T) = some d:=by
  simp [underlying,pureSem,Bind.bind,Sem.bind,program,h,pure]
def isAggD : TypeDesc→Bool
  | .struct _ => true
  | .array _ _ => true
  | _ => false
theorem pureSem_isAgg {P : Program} {T : TypeId} {d : TypeDesc} (h : P.underlying T = some d) : pureSem P (isAgg T) = some (isAggD d):=by
  unfold isAgg
  rw [pureSem_bind (pureSem_und h)]
  cases d <;> rfl
theorem pureSem_size {P : Program} {T : TypeId} {n : Nat} (h : szOf P T = some n) : pureSem P (sizeOf T) = some n:=by
  simp only [szOf,Option.map_eq_some_iff] at h
  obtain ⟨i,h1,rfl⟩:=h
  have e : pureSem P (typeInfo T) = some i:=by simp [typeInfo,pureSem,Bind.bind,Sem.bind,program,h1,pure]
  unfold sizeOf
  rw [pureSem_bind e]; rfl
def valOf (d : TypeDesc) (cs : List Value) : Value :=
  match d with
  | .struct _ | .array _ _ => .agg cs.toArray
  | _ => cs.headD undef
theorem pureSem_part {P : Program} {T : TypeId} {d : TypeDesc} {n : Nat} (h : P.underlying T = some d) (hn : szOf P T = some n) {cs : List Value} {o : Nat} (hl : o + n ≤ cs.length) (h1 : (∀ fs,d ≠ .struct fs)→(∀ m e,d ≠ .array m e)→n = 1) :
    pureSem P (part T cs.toArray o) = some (valOf d ((cs.drop o).take n)):=by
  unfold part
  rw [pureSem_bind (pureSem_isAgg h)]
  have agg : pureSem P (do let x ← sizeOf T; pure (Value.agg (cs.toArray.extract o (o + x)))) = some (Value.agg ((cs.drop o).take n).toArray):=by
    rw [pureSem_bind (pureSem_size hn)]
    show some _ = some _
    congr 2
    simp [List.extract_eq_take_drop]
  have one : (∀ fs, d ≠ .struct fs) → (∀ m e, d ≠ .array m e) → pureSem P (match cs.toArray[o]? with | some v => (pure v : Sem Value) | none => stuck "part: no such cell") = some (((cs.drop o).take n).headD undef) := by
    intro a b
    have:=h1 a b
    subst this
    have ho : o < cs.length:=by omega
    have e : cs.toArray[o]? = some cs[o]:=by simp [ho]
    have e2 : (cs.drop o).take 1 = [cs[o]]:=by
      rw [List.drop_eq_getElem_cons ho]; rfl
    rw [e,e2]; rfl
  cases d <;> simp only [isAggD,if_true,Bool.false_eq_true,if_false] <;> first | exact agg | exact one (fun _ => by simp) (fun _ _ => by simp)
def Fits : List SK→List Sc→Prop
  | [],[] => True
  | .int :: ks,.int _ _ :: l => Fits ks l
  | .bool :: ks,.bool _ :: l => Fits ks l
  | .str :: ks,.str _ :: l => Fits ks l
  | _,_ => False
theorem eqK_inv : ∀ {ks : List SK} {xs ys : List AV} {r : Bool},eqK ks xs ys = some r→∃ a b : List Sc,xs = a.map .sc∧ys = b.map .sc∧a.length = ks.length∧b.length = ks.length
  | [],[],[],_,_ => ⟨[],[],rfl,rfl,rfl,rfl⟩
  | .int :: ks,.sc (.int k a) :: l,.sc (.int k' b) :: m,r,h => by
    simp only [eqK] at h
    split at h
    · simp only [Option.map_eq_some_iff] at h
      obtain ⟨q,hq,_⟩:=h
      obtain ⟨u,v,rfl,rfl,h1,h2⟩:=eqK_inv hq
      exact ⟨.int k a :: u,.int k' b :: v,rfl,rfl,by simp [h1],by simp [h2]⟩
    · cases h
  | .bool :: ks,.sc (.bool a) :: l,.sc (.bool b) :: m,r,h => by
    simp only [eqK,Option.map_eq_some_iff] at h
    obtain ⟨q,hq,_⟩:=h
    obtain ⟨u,v,rfl,rfl,h1,h2⟩:=eqK_inv hq
    exact ⟨.bool a :: u,.bool b :: v,rfl,rfl,by simp [h1],by simp [h2]⟩
  | .str :: ks,.sc (.str a) :: l,.sc (.str b) :: m,r,h => by
    simp only [eqK,Option.map_eq_some_iff] at h
    obtain ⟨q,hq,_⟩:=h
    obtain ⟨u,v,rfl,rfl,h1,h2⟩:=eqK_inv hq
    exact ⟨.str a :: u,.str b :: v,rfl,rfl,by simp [h1],by simp [h2]⟩
theorem eqK_append : ∀ {ks js : List SK} {xs ys : List AV} {r : Bool},eqK (ks ++ js) xs ys = some r→∃ p q,eqK ks (xs.take ks.length) (ys.take ks.length) = some p∧eqK js (xs.drop ks.length) (ys.drop ks.length) = some q∧r = (p && q)
  | [],js,xs,ys,r,h => ⟨true,r,rfl,h,by simp⟩
  | k :: ks,js,xs,ys,r,h => by
    match k,xs,ys,h with
    | .int,.sc (.int k a) :: l,.sc (.int k' b) :: m,h =>
      simp only [List.cons_append,eqK] at h
      split at h
      · rename_i hk
        simp only [Option.map_eq_some_iff] at h
        obtain ⟨u,hu,rfl⟩:=h
        obtain ⟨p,q,h1,h2,rfl⟩:=eqK_append hu
        refine ⟨decide (a = b) && p,q,?_,h2,by simp [Bool.and_assoc]⟩
        simp only [List.length_cons,List.take_succ_cons,eqK,if_pos hk,h1]; rfl
      · cases h
    | .bool,.sc (.bool a) :: l,.sc (.bool b) :: m,h =>
      simp only [List.cons_append,eqK,Option.map_eq_some_iff] at h
      obtain ⟨u,hu,rfl⟩:=h
      obtain ⟨p,q,h1,h2,rfl⟩:=eqK_append hu
      refine ⟨(a == b) && p,q,?_,h2,by simp [Bool.and_assoc]⟩
      simp only [List.length_cons,List.take_succ_cons,eqK,h1]; rfl
    | .str,.sc (.str a) :: l,.sc (.str b) :: m,h =>
      simp only [List.cons_append,eqK,Option.map_eq_some_iff] at h
      obtain ⟨u,hu,rfl⟩:=h
      obtain ⟨p,q,h1,h2,rfl⟩:=eqK_append hu
      refine ⟨(a.toList == b.toList) && p,q,?_,h2,by simp [Bool.and_assoc]⟩
      simp only [List.length_cons,List.take_succ_cons,eqK,h1]; rfl
theorem eqK_len {ks : List SK} {xs ys : List AV} {r : Bool} (h : eqK ks xs ys = some r) : xs.length = ks.length∧ys.length = ks.length:=by
  obtain ⟨a,b,rfl,rfl,h1,h2⟩:=eqK_inv h
  simp [h1,h2]
def scVals (l : List AV) : List Value:=l.map fun v => match v with | .sc s => s.val | _ => undef
theorem scVals_len (l : List AV) : (scVals l).length = l.length:=by simp [scVals]
theorem scVals_cut (l : List AV) (o n : Nat) : ((scVals l).drop o).take n = scVals ((l.drop o).take n):=by simp [scVals,List.map_take,List.map_drop]
section
variable {P : Program}
def FIn (P : Program) (d : Nat) (T : TypeId) (ks : List SK) : Prop:=∀ xs ys r e,eqK ks xs ys = some r→∃ td,P.underlying T = some td∧pureSem P (Op.equalIn (d + e) T (valOf td (scVals xs)) (valOf td (scVals ys))) = some r∧((∀ fs,td ≠ .struct fs)→(∀ m e,td ≠ .array m e)→ks.length = 1)
def fieldLoop (d : Nat) (xs ys : Array Value) : List Field→Sem Bool:=Op.eqFields d xs ys
theorem pure_map_some {α β : Type} {s : Sem α} {f : α→Sem β} {u : β} (h : pureSem P (s >>= f) = some u) : ∃ a,pureSem P s = some a∧pureSem P (f a) = some u:=by
  induction s with
  | pure a => exact ⟨a,rfl,h⟩
  | program k ih => exact ih P h
  | mark m k ih => exact ih h
  | _ => simp [Bind.bind,Sem.bind,pureSem] at h
theorem fields_eq {d e : Nat} {g : TypeId→Option (List SK)} (hg : ∀ T ks,g T = some ks→FIn P d T ks) {xs ys : List AV} (fs0 : List Field) :
    ∀ (fs : List Field) (o : Nat) (ks : List SK) (r : Bool),flatFs P g fs o = some ks→o ≤ xs.length→o ≤ ys.length→eqK ks (xs.drop o) (ys.drop o) = some r →
      pureSem P (Op.eqFields (d + e) (scVals xs).toArray (scVals ys).toArray fs) = some r
  | [],o,ks,r,h,_,_,hr => by
    simp only [flatFs,Option.some.injEq] at h; subst h
    have : r = true:=by
      generalize xs.drop o = a at hr
      generalize ys.drop o = b at hr
      cases a <;> cases b <;> simp [eqK] at hr
      exact hr
    subst this; rfl
  | f :: fs,o,ks,r,h,ox,oy,hr => by
    simp only [flatFs] at h
    split at h
    rotate_left
    · cases h
    rename_i ho
    obtain ⟨ho,hnm⟩:=ho
    simp only [Option.bind_eq_some_iff] at h
    obtain ⟨k1,hk1,h⟩:=h
    split at h
    rotate_left
    · cases h
    rename_i hsz
    simp only [Option.map_eq_some_iff] at h
    obtain ⟨k2,hk2,rfl⟩:=h
    obtain ⟨p,q,h1,h2,rfl⟩:=eqK_append hr
    obtain ⟨td,ht,h3,h4⟩:=hg _ _ hk1 _ _ _ e h1
    have l1:=eqK_len h1
    simp only [List.length_take,List.length_drop] at l1
    simp only [Op.eqFields]
    rw [if_pos hnm]
    rw [pureSem_bind (pureSem_part ht hsz (by rw [scVals_len]; omega) (fun a b => h4 a b))]
    rw [pureSem_bind (pureSem_part ht hsz (by rw [scVals_len]; omega) (fun a b => h4 a b))]
    rw [scVals_cut,scVals_cut,ho]
    rw [pureSem_bind h3]
    cases p with
    | false => rfl
    | true =>
      simp only [Bool.not_true,Bool.false_eq_true,if_false,Bool.true_and]
      refine fields_eq hg fs0 fs (o + k1.length) k2 q hk2 (by omega) (by omega) ?_
      rw [← List.drop_drop,← List.drop_drop]; exact h2
theorem pure_agg_eq {d : Nat} {T : TypeId} {fs : Array Field} {xs ys : Array Value} {r : Bool} (ht : P.underlying T = some (.struct fs)) (hs : P.stoodInHeld T = false) (h : pureSem P (Op.eqFields d xs ys fs.toList) = some r) :
    pureSem P (Op.equalIn (d + 1) T (.agg xs) (.agg ys)) = some r:=by
  unfold Op.equalIn
  rw [pureSem_bind (pureSem_und ht)]
  simp only
  have hp : pureSem P (do let p ← program; pure (p.stoodInHeld T)) = some false:=by show some (P.stoodInHeld T) = _; rw [hs]
  show pureSem P (program >>= fun p => _) = _
  rw [pureSem_bind (show pureSem P program = some P from rfl)]
  rw [hs]
  simp only [Bool.false_eq_true,if_false]
  show pureSem P (_ >>= _) = _
  rw [← Array.forIn_toList]
  generalize fs.toList = l at h
  have key : ∀ (l : List Field) (r : Bool),pureSem P (Op.eqFields d xs ys l) = some r→pureSem P (forIn l ((none,()) : Option Bool × Unit) fun f __s =>
      if f.name ≠ "_" then do
        let a ← part f.type xs f.offset
        let b ← part f.type ys f.offset
        let c ← Op.equalIn d f.type a b
        if (!c) = true then pure (ForInStep.done (some false,())) else pure (ForInStep.yield (none,()))
      else pure (ForInStep.yield (none,()))) = some (if r = true then (none,()) else (some false,())):=by
    intro l
    induction l with
    | nil => intro r h; simp only [Op.eqFields,pure,pureSem,Option.some.injEq] at h; subst h; rfl
    | cons f l ih =>
      intro r h
      simp only [Op.eqFields] at h
      simp only [List.forIn_cons]
      by_cases hn : f.name = "_"
      · rw [if_neg (by simpa using hn)] at h
        rw [if_neg (by simpa using hn)]
        rw [pureSem_bind (show pureSem P (pure (ForInStep.yield (none,()))) = some (ForInStep.yield (none,())) from rfl)]
        exact ih r h
      · rw [if_pos hn] at h
        rw [if_pos hn]
        obtain ⟨a,ha,h⟩:=pure_map_some h
        obtain ⟨b,hb,h⟩:=pure_map_some h
        obtain ⟨c,hc,h⟩:=pure_map_some h
        have body : pureSem P (do
            let a ← part f.type xs f.offset
            let b ← part f.type ys f.offset
            let c ← Op.equalIn d f.type a b
            if (!c) = true then pure (ForInStep.done ((some false,()) : Option Bool × Unit)) else pure (ForInStep.yield (none,()))) = some (if c = true then ForInStep.yield (none,()) else ForInStep.done (some false,())):=by
          rw [pureSem_bind ha,pureSem_bind hb,pureSem_bind hc]
          cases c <;> rfl
        rw [pureSem_bind body]
        cases c with
        | true =>
          simp only [Bool.not_true,Bool.false_eq_true,if_false,if_true] at h ⊢
          exact ih r h
        | false =>
          simp only [Bool.not_false,if_true,pure,pureSem,Option.some.injEq] at h
          subst h; rfl
  rw [pureSem_bind (key l r h)]
  cases r <;> rfl
theorem eqK_flatAs {xs ys : List AV} {ks : List SK} : ∀ {n : Nat} {r : Bool} {o : Nat},eqK (flatAs ks n) (xs.drop o) (ys.drop o) = some r→o ≤ xs.length→o ≤ ys.length →
    ∃ p : Nat→Bool,(∀ i,i < n→eqK ks ((xs.drop (o + i * ks.length)).take ks.length) ((ys.drop (o + i * ks.length)).take ks.length) = some (p i))∧o + n * ks.length = xs.length∧o + n * ks.length = ys.length∧r = (List.range n).all p
  | 0,r,o,h,ox,oy => by
    have hl:=eqK_len h
    simp only [flatAs,List.length_nil,List.length_drop] at hl
    refine ⟨fun _ => true,fun i hi => by omega,by omega,by omega,?_⟩
    simp only [flatAs] at h
    generalize xs.drop o = a at h
    generalize ys.drop o = b at h
    cases a <;> cases b <;> simp [eqK] at h
    subst h; rfl
  | n + 1,r,o,h,ox,oy => by
    obtain ⟨p,q,h1,h2,rfl⟩:=eqK_append h
    have l1:=eqK_len h1
    simp only [List.length_take,List.length_drop] at l1
    rw [List.drop_drop,List.drop_drop] at h2
    obtain ⟨p',a1,a2,a3,rfl⟩:=eqK_flatAs h2 (by omega) (by omega)
    have e : ∀ i,o + ks.length + i * ks.length = o + (i + 1) * ks.length:=fun i => by rw [Nat.succ_mul]; omega
    refine ⟨fun i => match i with | 0 => p | i + 1 => p' i,fun i hi => ?_,by rw [← e]; exact a2,by rw [← e]; exact a3,?_⟩
    · cases i with
      | zero => simpa using h1
      | succ i =>
        have:=a1 i (by omega)
        rw [e] at this; exact this
    · rw [List.range_succ_eq_map]
      simp only [List.all_cons,List.all_map]
      rfl
theorem pure_arr_eq {d n m : Nat} {T e : TypeId} {xs ys : Array Value} {p : Nat→Bool} (ht : P.underlying T = some (.array n e)) (hm : szOf P e = some m)
    (h : ∀ i,i < n→∃ a b,pureSem P (part e xs (i * m)) = some a∧pureSem P (part e ys (i * m)) = some b∧pureSem P (Op.equalIn d e a b) = some (p i)) :
    pureSem P (Op.equalIn (d + 1) T (.agg xs) (.agg ys)) = some ((List.range n).all p):=by
  unfold Op.equalIn
  rw [pureSem_bind (pureSem_und ht)]
  simp only
  rw [pureSem_bind (pureSem_size hm)]
  simp only [Std.Legacy.Range.forIn_eq_forIn_range',Std.Legacy.Range.size,Nat.sub_zero,Nat.add_sub_cancel,Nat.div_one]
  have key : ∀ (l : List Nat),(∀ i ∈ l,i < n)→pureSem P (forIn l ((none,()) : Option Bool × Unit) fun i __s => do
      let a ← part e xs (i * m)
      let b ← part e ys (i * m)
      let c ← Op.equalIn d e a b
      if (!c) = true then pure (ForInStep.done (some false,())) else pure (ForInStep.yield (none,()))) = some (if l.all p = true then (none,()) else (some false,())):=by
    intro l
    induction l with
    | nil => intro _; rfl
    | cons i l ih =>
      intro hl
      simp only [List.forIn_cons,List.all_cons]
      obtain ⟨a,b,ha,hb,hc⟩:=h i (hl i (by simp))
      have body : pureSem P (do
          let a ← part e xs (i * m)
          let b ← part e ys (i * m)
          let c ← Op.equalIn d e a b
          if (!c) = true then pure (ForInStep.done ((some false,()) : Option Bool × Unit)) else pure (ForInStep.yield (none,()))) = some (if p i = true then ForInStep.yield (none,()) else ForInStep.done (some false,())):=by
        rw [pureSem_bind ha,pureSem_bind hb,pureSem_bind hc]
        cases p i <;> rfl
      rw [pureSem_bind body]
      by_cases hp : p i = true
      · simp only [hp,if_true,Bool.true_and]
        exact ih fun j hj => hl j (by simp [hj])
      · simp only [Bool.not_eq_true] at hp
        simp only [hp,Bool.false_eq_true,if_false,Bool.false_and]
        rfl
  rw [← List.range_eq_range']
  rw [pureSem_bind (key (List.range n) (by simp))]
  cases (List.range n).all p <;> rfl
theorem flat_ok : ∀ (d : Nat) (T : TypeId) (ks : List SK),flatK P d T = some ks→FIn P d T ks
  | 0,_,_,h => by cases h
  | d + 1,T,ks,h => by
    intro xs ys r e hr
    have hd : d + 1 + e = d + e + 1:=by omega
    rw [hd]
    unfold flatK at h
    split at h
    · rename_i k ht
      cases h
      obtain ⟨hlx,hly⟩:=eqK_len hr
      obtain ⟨x0,rfl⟩:=List.length_eq_one_iff.1 hlx
      obtain ⟨y0,rfl⟩:=List.length_eq_one_iff.1 hly
      match x0,y0,hr with
      | .sc (.int k a),.sc (.int k' b),hr =>
        simp only [eqK] at hr
        split at hr
        · rename_i hk
          subst hk
          simp only [Option.map_some,Bool.and_true,Option.some.injEq] at hr
          subst hr
          refine ⟨_,ht,?_,fun _ _ => rfl⟩
          show pureSem P (Op.equalIn (d + e + 1) T (.int k a) (.int k b)) = _
          unfold Op.equalIn
          rw [pureSem_bind (pureSem_und ht)]
          simp only [if_true]
          show some (a == b) = _
          congr 1
        · cases hr
    · rename_i ht
      cases h
      obtain ⟨hlx,hly⟩:=eqK_len hr
      obtain ⟨x0,rfl⟩:=List.length_eq_one_iff.1 hlx
      obtain ⟨y0,rfl⟩:=List.length_eq_one_iff.1 hly
      match x0,y0,hr with
      | .sc (.bool a),.sc (.bool b),hr =>
        simp only [eqK,Option.map_some,Bool.and_true,Option.some.injEq] at hr
        subst hr
        refine ⟨_,ht,?_,fun _ _ => rfl⟩
        show pureSem P (Op.equalIn (d + e + 1) T (.bool a) (.bool b)) = _
        unfold Op.equalIn
        rw [pureSem_bind (pureSem_und ht)]
        rfl
    · rename_i ht
      cases h
      obtain ⟨hlx,hly⟩:=eqK_len hr
      obtain ⟨x0,rfl⟩:=List.length_eq_one_iff.1 hlx
      obtain ⟨y0,rfl⟩:=List.length_eq_one_iff.1 hly
      match x0,y0,hr with
      | .sc (.str a),.sc (.str b),hr =>
        simp only [eqK,Option.map_some,Bool.and_true,Option.some.injEq] at hr
        subst hr
        refine ⟨_,ht,?_,fun _ _ => rfl⟩
        show pureSem P (Op.equalIn (d + e + 1) T (.string a) (.string b)) = _
        unfold Op.equalIn
        rw [pureSem_bind (pureSem_und ht)]
        show some (a == b) = _
        rw [beq_toListBytes]
    · rename_i fs ht
      split at h
      · cases h
      · rename_i hs
        simp only [Bool.not_eq_true] at hs
        refine ⟨_,ht,?_,fun a => absurd rfl (a fs)⟩
        refine pure_agg_eq ht hs ?_
        exact fields_eq (fun T ks h => flat_ok d T ks h) fs.toList fs.toList 0 ks r h (Nat.zero_le _) (Nat.zero_le _) (by simpa using hr)
    · rename_i n el ht
      simp only [Option.bind_eq_some_iff] at h
      obtain ⟨k1,hk1,h⟩:=h
      split at h
      rotate_left
      · cases h
      rename_i hsz
      cases h
      refine ⟨_,ht,?_,fun _ b => absurd rfl (b n el)⟩
      obtain ⟨p,a1,a2,a3,rfl⟩:=eqK_flatAs (o:=0) (xs:=xs) (ys:=ys) (by simpa using hr) (Nat.zero_le _) (Nat.zero_le _)
      refine pure_arr_eq ht hsz fun i hi => ?_
      have h1:=a1 i hi
      simp only [Nat.zero_add] at h1 a2 a3
      obtain ⟨td,ht2,h3,h4⟩:=flat_ok d el k1 hk1 _ _ _ e h1
      have hb : (i + 1) * k1.length ≤ n * k1.length:=Nat.mul_le_mul_right _ hi
      rw [Nat.succ_mul] at hb
      refine ⟨_,_,pureSem_part ht2 hsz (by rw [scVals_len]; omega) (fun a b => h4 a b),pureSem_part ht2 hsz (by rw [scVals_len]; omega) (fun a b => h4 a b),?_⟩
      rw [scVals_cut,scVals_cut]
      exact h3
    · cases h
end
end Go.Hem
