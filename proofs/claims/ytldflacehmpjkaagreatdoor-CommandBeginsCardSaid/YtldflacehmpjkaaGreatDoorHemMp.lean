import Derived.Test.YtldflacehmpjkaaGreatDoorHemF
import Derived.MapKept
namespace Go.Hem
theorem mapOf_spec {P : Program} {T k e : TypeId} (h : mapOf P T = some (k,e)) : P.underlying T = some (.map k e):=by
  unfold mapOf at h
  split at h
  · rename_i a b q; cases h; exact q
  · cases h
theorem keyEq_run {P : Program} {G : Gh} {w : World} {T : TypeId} {ks : List SK} {g : Bool} {a b : AV} {v v' : Value} {r : Bool} (hk : flatK P 12 T = some ks) (hg : isAggB P T = some g) (h : keyEq g ks a b = some r) (ha : VR G a v) (hb : VR G b v') :
    (Op.equal T v v').run P w = .ok r w:=by
  replace h:=keyEq_ins G.sym h
  replace ha:=ha.ins
  replace hb:=hb.ins
  revert h ha hb
  generalize AV.ins G.sym a = a
  generalize AV.ins G.sym b = b
  intro h ha hb
  have key : ∀ (td : TypeDesc) (xs ys : List AV),P.underlying T = some td→eqK ks xs ys = some r→v = valOf td (scVals xs)→v' = valOf td (scVals ys)→(Op.equal T v v').run P w = .ok r w:=by
    intro td xs ys ht he h1 h2
    obtain ⟨td',ht',h3,_⟩:=flat_ok 12 T ks hk xs ys r (Op.maxDepth - 12) he
    rw [ht] at ht'; cases ht'
    have : 12 + (Op.maxDepth - 12) = Op.maxDepth:=by decide
    rw [this] at h3
    rw [h1,h2]
    exact run_of_pureSem h3 w
  simp only [isAggB,Option.map_eq_some_iff] at hg
  obtain ⟨td,ht,hg⟩:=hg
  unfold keyEq0 at h
  split at h
  · rename_i xs ys
    split at h
    · rename_i hgt
      obtain ⟨p,q,e1,e2,e3,e4⟩:=eqK_inv h
      cases ha with
      | agg hl hv =>
      cases hb with
      | agg hl' hv' =>
      rename_i vs vs'
      have hvs : ∀ {l : List Sc} {ws : List Value},VRs G (l.map .sc) ws→ws = scVals (l.map .sc):=by
        intro l
        induction l with
        | nil => intro ws hw; exact hw.of_nil
        | cons s l ih =>
          intro ws hw
          obtain ⟨y,m,rfl,r1,r2⟩:=hw.of_cons
          rw [ih r2,r1.sc_inv]; rfl
      have n1:=hvs (l:=p) (ws:=vs) (by rw [← e1]; exact ⟨hl,hv⟩)
      have n2:=hvs (l:=q) (ws:=vs') (by rw [← e2]; exact ⟨hl',hv'⟩)
      have hagg : ∀ l,valOf td l = .agg l.toArray:=by
        intro l
        cases td <;> simp_all [valOf]
      exact key td xs ys ht h (by rw [hagg,n1,e1]) (by rw [hagg,n2,e2])
    · cases h
  · rename_i x y
    split at h
    · cases h
    · rename_i hgf
      have e1:=ha.sc_inv
      have e2:=hb.sc_inv
      have hsc : ∀ u : Value,valOf td [u] = u:=by
        intro u
        cases td <;> simp_all [valOf]
      exact key td [.sc x] [.sc y] ht h (by rw [e1]; exact (hsc _).symm) (by rw [e2]; exact (hsc _).symm)
  · cases h
theorem keyK_flat {P : Program} {T : TypeId} {ks : List SK} (h : keyK P T = some ks) : flatK P 12 T = some ks:=by
  unfold keyK at h
  split at h
  · split at h
    · exact h
    · cases h
  all_goals first | exact h | cases h
theorem check_basic {P : Program} {w : World} {T : TypeId} (h : basicB P T = true) (em : Bool) (n : Nat) (v : Value) : (Instr.checkKey em (n + 1) T v).run P w = .ok () w:=by
  unfold basicB at h
  unfold Instr.checkKey
  split at h
  · rename_i k hd; simp only [Sem.run_bind,run_underlying hd,Result.andThen]; cases v <;> rfl
  · rename_i hd; simp only [Sem.run_bind,run_underlying hd,Result.andThen]; cases v <;> rfl
  · rename_i hd; simp only [Sem.run_bind,run_underlying hd,Result.andThen]; cases v <;> rfl
  · cases h
theorem check_struct {P : Program} {w : World} {em : Bool} {n : Nat} {g : TypeId→Option (List SK)} {vs : List Value} {T : TypeId} {fs : Array Field} {ks : List SK} (hg : ∀ T ks,g T = some ks→basicB P T = true→ks.length = 1) (hu : P.underlying T = some (.struct fs)) (hf : flatFs P g fs.toList 0 = some ks) (hl : ks.length ≤ vs.length) (hb : ∀ f ∈ fs.toList,basicB P f.type = true) :
    (Instr.checkKey em (n + 2) T (.agg vs.toArray)).run P w = .ok () w:=by
  rw [Instr.checkKey]
  simp only [Sem.run_bind,run_underlying hu,Result.andThen_ok]
  rw [← Array.forIn_toList]
  have hl : 0 + ks.length ≤ vs.length:=by omega
  generalize 0 = o at hf hl
  generalize fs.toList = L at hf hb
  induction L generalizing o ks with
  | nil => simp
  | cons f L ih =>
    simp only [flatFs] at hf
    split at hf
    rotate_left
    · cases hf
    rename_i ho
    obtain ⟨ho,hnm⟩:=ho
    simp only [Option.bind_eq_some_iff] at hf
    obtain ⟨k1,hk1,hf⟩:=hf
    split at hf
    rotate_left
    · cases hf
    rename_i hsz
    simp only [Option.map_eq_some_iff] at hf
    obtain ⟨k2,hk2,rfl⟩:=hf
    have hbf:=hb f (by simp)
    have h1:=hg _ _ hk1 hbf
    simp only [List.length_append] at hl
    obtain ⟨td,ht⟩ : ∃ td,P.underlying f.type = some td:=by
      unfold basicB at hbf
      cases q : P.underlying f.type with
      | none => rw [q] at hbf; simp at hbf
      | some td => exact ⟨td,rfl⟩
    have hp:=run_of_pureSem (pureSem_part ht hsz (cs:=vs) (o:=f.offset) (by rw [ho]; omega) (fun _ _ => h1)) w
    simp only [List.forIn_cons,Sem.run_bind,hnm,ne_eq,not_false_eq_true,if_true,Result.andThen_ok,hp,check_basic hbf,Sem.run_pure]
    exact ih (by omega) _ (by omega) hk2 (fun f hf => hb f (by simp [hf]))
theorem basic_len {P : Program} {d : Nat} {T : TypeId} {ks : List SK} (h : flatK P d T = some ks) (hb : basicB P T = true) : ks.length = 1:=by
  cases d with
  | zero => cases h
  | succ d =>
    unfold flatK at h
    unfold basicB at hb
    split at hb
    · rename_i q; rw [q] at h; cases h; rfl
    · rename_i q; rw [q] at h; cases h; rfl
    · rename_i q; rw [q] at h; cases h; rfl
    · cases hb
theorem check_run {P : Program} {G : Gh} {w : World} {em : Bool} {T : TypeId} {ks : List SK} {g r : Bool} {a : AV} {v : Value} (hk : keyK P T = some ks) (hg : isAggB P T = some g) (h : keyEq g ks a a = some r) (ha : VR G a v) :
    (Instr.checkKey em 10000 T v).run P w = .ok () w:=by
  replace h:=keyEq_ins G.sym h
  replace ha:=ha.ins
  revert h ha
  generalize AV.ins G.sym a = a
  intro h ha
  have hfl:=keyK_flat hk
  simp only [isAggB,Option.map_eq_some_iff] at hg
  obtain ⟨td,ht,hg⟩:=hg
  unfold keyK at hk
  split at hk
  · rename_i fs hu
    split at hk
    rotate_left
    · cases hk
    rename_i hall
    rw [hu] at ht; cases ht
    simp only at hg; subst hg
    unfold keyEq0 at h
    split at h
    · rename_i xs ys
      simp only [if_true] at h
      cases ha with
      | agg hl hv =>
      rename_i vs
      have e:=eqK_len h
      unfold flatK at hfl
      rw [hu] at hfl
      simp only at hfl
      split at hfl
      · cases hfl
      · exact check_struct (n:=9998) (fun T ks h1 h2 => basic_len h1 h2) hu hfl (by omega) (fun f hf => List.all_eq_true.1 hall f hf)
    · simp at h
    · cases h
  all_goals first
    | (cases hk; done)
    | (rename_i q; exact check_basic (n:=9999) (by simp only [basicB,q]) em v)
theorem bytes_of_toList {a b : ByteArray} (h : a.toList = b.toList) : a = b:=by
  rw [ByteArray.toList_eq,ByteArray.toList_eq] at h
  obtain ⟨⟨x⟩⟩:=a
  obtain ⟨⟨y⟩⟩:=b
  simp at h; subst h; rfl
theorem bytes_eq (a b : ByteArray) : (a == b) = true ↔ a = b:=by
  obtain ⟨x⟩:=a
  obtain ⟨y⟩:=b
  constructor
  · intro h
    have e : x = y:=by simpa using (show (x == y) = true from h)
    rw [e]
  · intro h
    cases h
    show (x == x) = true
    simp
theorem eqK_true : ∀ {ks : List SK} {xs ys : List AV},eqK ks xs ys = some true→xs = ys
  | [],[],[],_ => rfl
  | .int :: ks,.sc (.int k a) :: l,.sc (.int k' b) :: m,h => by
    simp only [eqK] at h
    split at h
    · rename_i q; subst q
      simp only [Option.map_eq_some_iff,Bool.and_eq_true,decide_eq_true_eq] at h
      obtain ⟨r,h1,rfl,rfl⟩:=h
      rw [eqK_true h1]
    · cases h
  | .bool :: ks,.sc (.bool a) :: l,.sc (.bool b) :: m,h => by
    simp only [eqK,Option.map_eq_some_iff,Bool.and_eq_true,beq_iff_eq] at h
    obtain ⟨r,h1,rfl,rfl⟩:=h
    rw [eqK_true h1]
  | .str :: ks,.sc (.str a) :: l,.sc (.str b) :: m,h => by
    simp only [eqK,Option.map_eq_some_iff,Bool.and_eq_true,beq_iff_eq] at h
    obtain ⟨r,h1,h2,rfl⟩:=h
    rw [eqK_true h1,bytes_of_toList h2]
theorem eqK_bits : ∀ {ks : List SK} {xs ys : List AV} {r : Bool},eqK ks xs ys = some r→∀ c ∈ scVals xs,∀ n,Instr.sameBits n c c = true
  | [],[],[],_,_,c,hc,_ => by simp [scVals] at hc
  | .int :: ks,.sc (.int k a) :: l,.sc (.int k' b) :: m,r,h,c,hc,n => by
    simp only [eqK] at h
    split at h
    · simp only [Option.map_eq_some_iff] at h
      obtain ⟨r',h1,_⟩:=h
      simp only [scVals,List.map_cons,List.mem_cons] at hc
      rcases hc with rfl | hc
      · cases n <;> simp [Instr.sameBits,Sc.val]
      · exact eqK_bits h1 c hc n
    · cases h
  | .bool :: ks,.sc (.bool a) :: l,.sc (.bool b) :: m,r,h,c,hc,n => by
    simp only [eqK,Option.map_eq_some_iff] at h
    obtain ⟨r',h1,_⟩:=h
    simp only [scVals,List.map_cons,List.mem_cons] at hc
    rcases hc with rfl | hc
    · cases n <;> simp [Instr.sameBits,Sc.val]
    · exact eqK_bits h1 c hc n
  | .str :: ks,.sc (.str a) :: l,.sc (.str b) :: m,r,h,c,hc,n => by
    simp only [eqK,Option.map_eq_some_iff] at h
    obtain ⟨r',h1,_⟩:=h
    simp only [scVals,List.map_cons,List.mem_cons] at hc
    rcases hc with rfl | hc
    · cases n <;> simp only [Instr.sameBits,Sc.val] <;> exact (bytes_eq a a).2 rfl
    · exact eqK_bits h1 c hc n
theorem vr_sc_list {G : Gh} : ∀ {l : List Sc} {ws : List Value},VRs G (l.map .sc) ws→ws = scVals (l.map .sc)
  | [],ws,hw => hw.of_nil
  | s :: l,ws,hw => by
    obtain ⟨y,m,rfl,r1,r2⟩:=VRs.of_cons hw
    rw [vr_sc_list r2,r1.sc_inv]; rfl
theorem keyEq_same {G : Gh} {g : Bool} {ks : List SK} {a b : AV} {v v' : Value} (h : keyEq g ks a b = some true) (ha : VR G a v) (hb : VR G b v') : v = v'∧Instr.sameBits 10000 v' v = true:=by
  replace h:=keyEq_ins G.sym h
  replace ha:=ha.ins
  replace hb:=hb.ins
  revert h ha hb
  generalize AV.ins G.sym a = a
  generalize AV.ins G.sym b = b
  intro h ha hb
  unfold keyEq0 at h
  split at h
  · rename_i xs ys
    split at h
    · have e:=eqK_true h
      subst e
      obtain ⟨p,q,e1,_,_,_⟩:=eqK_inv h
      have bits:=eqK_bits h
      cases ha with
      | agg hl hv =>
      cases hb with
      | agg hl' hv' =>
      rename_i vs vs'
      have n1:=vr_sc_list (l:=p) (ws:=vs) (by rw [← e1]; exact ⟨hl,hv⟩)
      have n2:=vr_sc_list (l:=p) (ws:=vs') (by rw [← e1]; exact ⟨hl',hv'⟩)
      rw [← e1] at n1 n2
      subst n1 n2
      refine ⟨rfl,?_⟩
      rw [show (10000 : Nat) = 9999 + 1 from rfl]
      simp only [Instr.sameBits,beq_self_eq_true,Bool.true_and,List.all_eq_true]
      intro x hx
      have : ∀ (l : List Value) (x : Value × Value),x ∈ l.zip l→x.1 = x.2∧x.1 ∈ l:=by
        intro l
        induction l with
        | nil => intro x hx; simp at hx
        | cons y l ih =>
          intro x hx
          simp only [List.zip_cons_cons,List.mem_cons] at hx
          rcases hx with rfl | hx
          · exact ⟨rfl,by simp⟩
          · exact ⟨(ih x hx).1,List.mem_cons_of_mem _ (ih x hx).2⟩
      obtain ⟨e3,e4⟩:=this _ x hx
      obtain ⟨x1,x2⟩:=x
      simp only at e3 e4 ⊢
      subst e3
      exact bits x1 e4 9999
    · cases h
  · rename_i x y
    split at h
    · cases h
    · have e:=eqK_true h
      simp only [List.cons.injEq,AV.sc.injEq,and_true] at e
      subst e
      rw [ha.sc_inv,hb.sc_inv]
      exact ⟨rfl,eqK_bits h x.val (by simp [scVals]) 10000⟩
  · cases h
theorem now_key {G : Gh} {g : Bool} {ks : List SK} {a b : AV} {v v' : Value} {td : TypeDesc} {r q : Bool} (h : keyEq g ks a b = some r) (ha : VR G a v) (hb : VR G b v') (hn : Instr.sameNow td v v' = some q) : q = r:=by
  replace h:=keyEq_ins G.sym h
  replace ha:=ha.ins
  replace hb:=hb.ins
  revert h ha hb
  generalize AV.ins G.sym a = a
  generalize AV.ins G.sym b = b
  intro h ha hb
  unfold Instr.sameNow at hn
  split at hn
  · rename_i k n k' m
    unfold keyEq0 at h
    split at h
    · cases ha
    · rename_i x y
      have e1:=ha.sc_inv
      have e2:=hb.sc_inv
      cases x <;> simp only [Sc.val,reduceCtorEq] at e1
      cases y <;> simp only [Sc.val,reduceCtorEq] at e2
      cases e1; cases e2
      split at hn
      · rename_i e; subst e
        split at h
        · cases h
        · cases ks with
          | nil => simp [eqK] at h
          | cons s ks =>
            cases s <;> simp only [eqK,reduceCtorEq,if_true] at h
            cases ks <;> simp only [eqK,Option.map_some,Option.map_none,reduceCtorEq,Bool.and_true,Option.some.injEq] at h hn
            subst h hn
            rfl
      · cases hn
    · cases h
  · rename_i n m
    unfold keyEq0 at h
    split at h
    · cases ha
    · rename_i x y
      have e1:=ha.sc_inv
      have e2:=hb.sc_inv
      cases x <;> simp only [Sc.val,reduceCtorEq] at e1
      cases y <;> simp only [Sc.val,reduceCtorEq] at e2
      cases e1; cases e2
      split at h
      · cases h
      · cases ks with
        | nil => simp [eqK] at h
        | cons s ks =>
          cases s <;> simp only [eqK,reduceCtorEq] at h
          cases ks <;> simp only [eqK,Option.map_some,Option.map_none,reduceCtorEq,Bool.and_true,Option.some.injEq] at h hn
          subst h hn
          by_cases e : n = m
          · subst e; rw [(bytes_eq n n).2 rfl]; simp
          · have h1 : (n == m) = false:=by cases q : (n == m) with
              | false => rfl
              | true => exact absurd ((bytes_eq n m).1 q) e
            have h2 : (n.toList == m.toList) = false:=by simp only [beq_eq_false_iff_ne,ne_eq]; exact fun k => e (bytes_of_toList k)
            rw [h1,h2]
    · cases h
  · rename_i n m
    unfold keyEq0 at h
    split at h
    · cases ha
    · rename_i x y
      have e1:=ha.sc_inv
      have e2:=hb.sc_inv
      cases x <;> simp only [Sc.val,reduceCtorEq] at e1
      cases y <;> simp only [Sc.val,reduceCtorEq] at e2
      cases e1; cases e2
      split at h
      · cases h
      · cases ks with
        | nil => simp [eqK] at h
        | cons s ks =>
          cases s <;> simp only [eqK,reduceCtorEq] at h
          cases ks <;> simp only [eqK,Option.map_some,Option.map_none,reduceCtorEq,Bool.and_true,Option.some.injEq] at h hn
          subst h hn
          rfl
    · cases h
  · cases hn
theorem find_run {P : Program} {G : Gh} {w : World} {T : TypeId} {ks : List SK} {g : Bool} {td : TypeDesc} (hk : keyK P T = some ks) (hg : isAggB P T = some g) {k : AV} {v : Value} (hv : VR G k v) : ∀ (es : List (AV × AV)) (en : List MapEntry) (i : Nat) (res : Option (Nat × AV)),es.length = en.length →
    (∀ j (h : j < es.length) (h' : j < en.length),VR G (es[j]).1 (en[j]).key∧VR G (es[j]).2 (en[j]).val)→afind g ks k es i = some res →
    ∃ rv : Option (Nat × Value),(Instr.findAsking T v en i).run P w = .ok rv w∧(∀ q,Instr.findNow td v en i = some q→q = rv) ∧
      ((res = none∧rv = none) ∨ ∃ j a u e,res = some (i + j,a)∧rv = some (i + j,u)∧VR G a u∧en[j]? = some e∧Instr.sameBits 10000 e.key v = true)
  | [],en,i,res,hl,_,h => by
    cases en with
    | cons => simp at hl
    | nil =>
      simp only [afind,Option.some.injEq] at h; subst h
      exact ⟨none,by simp [Instr.findAsking],fun q hq => by simp [Instr.findNow] at hq; exact hq.symm,.inl ⟨rfl,rfl⟩⟩
  | e :: es,en,i,res,hl,hr,h => by
    cases en with
    | nil => simp at hl
    | cons n en =>
      obtain ⟨r1,r2⟩:=hr 0 (by simp) (by simp)
      simp only [List.getElem_cons_zero] at r1 r2
      simp only [afind] at h
      have tail : ∀ j (h : j < es.length) (h' : j < en.length),VR G (es[j]).1 (en[j]).key∧VR G (es[j]).2 (en[j]).val:=fun j a b => by
        have:=hr (j + 1) (by simp; omega) (by simp; omega)
        simpa using this
      split at h
      · rename_i hq
        simp only [Option.some.injEq] at h; subst h
        have hrun:=keyEq_run (w:=w) (keyK_flat hk) hg hq hv r1
        refine ⟨some (i,n.val),?_,fun q hn => ?_,.inr ⟨0,e.2,n.val,n,rfl,rfl,r2,rfl,(keyEq_same hq hv r1).2⟩⟩
        · simp [Instr.findAsking,hrun,Result.andThen]
        · simp only [Instr.findNow] at hn
          split at hn
          · simpa using hn.symm
          · rename_i hs; have:=now_key hq hv r1 hs; cases this
          · cases hn
      · rename_i hq
        have hrun:=keyEq_run (w:=w) (keyK_flat hk) hg hq hv r1
        obtain ⟨rv,h1,h2,h3⟩:=find_run (w:=w) (td:=td) hk hg hv es en (i + 1) res (by simpa using hl) tail h
        refine ⟨rv,?_,fun q hn => ?_,?_⟩
        · simp [Instr.findAsking,hrun,Result.andThen,h1]
        · simp only [Instr.findNow] at hn
          split at hn
          · rename_i hs; have:=now_key hq hv r1 hs; cases this
          · exact h2 q hn
          · cases hn
        · rcases h3 with h3 | ⟨j,a,u,e',h4,h5,h6,h7,h8⟩
          · exact .inl h3
          · exact .inr ⟨j + 1,a,u,e',by rw [h4,Nat.add_assoc,Nat.add_comm 1 j],by rw [h5,Nat.add_assoc,Nat.add_comm 1 j],h6,by simpa using h7,h8⟩
      · cases h
theorem findKey_run {P : Program} {G : Gh} {w : World} {T : TypeId} {ks : List SK} {g : Bool} (hk : keyK P T = some ks) (hg : isAggB P T = some g) {k : AV} {v : Value} (hv : VR G k v) {es : List (AV × AV)} {en : List MapEntry} {res : Option (Nat × AV)} (hl : es.length = en.length)
    (hr : ∀ j (h : j < es.length) (h' : j < en.length),VR G (es[j]).1 (en[j]).key∧VR G (es[j]).2 (en[j]).val) (h : afind g ks k es 0 = some res) :
    ∃ rv : Option (Nat × Value),(Instr.findKey T v en).run P w = .ok rv w ∧
      ((res = none∧rv = none) ∨ ∃ j a u e,res = some (j,a)∧rv = some (j,u)∧VR G a u∧en[j]? = some e∧Instr.sameBits 10000 e.key v = true):=by
  have hg':=hg
  simp only [isAggB,Option.map_eq_some_iff] at hg'
  obtain ⟨td,ht,_⟩:=hg'
  obtain ⟨rv,h1,h2,h3⟩:=find_run (w:=w) (td:=td) hk hg hv es en 0 res hl hr h
  refine ⟨rv,?_,?_⟩
  · unfold Instr.findKey
    simp only [Sem.run_bind,run_underlying ht,Result.andThen_ok]
    cases hn : Instr.findNow td v en 0 with
    | none => exact h1
    | some q => rw [h2 q hn]; rfl
  · simpa using h3
theorem live_map {B : World} {G : Gh} {H : AHeap} {w : World} (hS : Sim B G H w) {b c : Nat} {es : List (AV × AV)} (h : H.map b = some es) (hc : G.β b = some c) :
    ∃ en clock,w.heap[c]? = some (.map en clock)∧es.length = en.toList.length∧(∀ j (h : j < es.length) (h' : j < en.toList.length),VR G (es[j]).1 (en.toList[j]).key∧VR G (es[j]).2 (en.toList[j]).val)∧H.get b = some (.map es):=by
  have hb : H.get b = some (.map es):=by
    unfold AHeap.map at h
    split at h
    · rename_i q; cases h; exact q
    · cases h
  obtain ⟨o,ho,hr⟩:=hS.live b _ c hb hc
  cases o <;> simp only [BR] at hr
  rename_i en clock
  exact ⟨en,clock,ho,by simpa using hr.1,fun j a b => by simpa using hr.2 j a (by simpa using b),hb⟩
theorem alookup_sim {P : Program} {B : World} {G : Gh} {H : AHeap} {w : World} (hS : Sim B G H w) {T : TypeId} {x k v : AV} {x' k' : Value} {ok : Bool} (hx : VR G x x') (hk : VR G k k') (h : alookup P T H x k ok = some v) :
    ∃ v',(Instr.lookup T x' k' ok).run P w = .ok v' w∧VR G v v':=by
  simp only [alookup,Option.bind_eq_some_iff] at h
  obtain ⟨⟨kt,et⟩,hm,ks,hks,g,hg,z,hz,h⟩:=h
  have hu:=mapOf_spec hm
  obtain ⟨i,zv,z1,z2,z3⟩:=azero_spec hz
  have hzr : VR G z zv:=of_spec z3
  have hres : ∀ (a : AV) (u : Value) (q : Bool),VR G a u→VR G (lkres ok a q) (if ok then .tuple #[u,.bool q] else u):=by
    intro a u q ha
    unfold lkres
    cases ok with
    | false => exact ha
    | true => exact VR.tup (cs:=[a,.sc (.bool q)]) (vs:=[u,.bool q]) rfl (fun j h1 h2 => by
        have : j = 0 ∨ j = 1:=by simp at h1; omega
        rcases this with rfl | rfl
        · exact ha
        · exact .sc (.bool q))
  unfold lookIn at h
  split at h
  rotate_left
  · cases h
  rename_i hself
  have hck:=fun em => check_run (w:=w) (em:=em) hks hg hself hk
  split at h
  · simp only [Option.some.injEq] at h; subst h
    have e:=hx.sc_inv
    refine ⟨_,?_,hres z zv false hzr⟩
    rw [e]
    unfold Instr.lookup
    simp only [Sem.run_bind,run_underlying hu,Result.andThen_ok,Sc.val,Sem.run_pure,hck]
    have : (Instr.findKey kt k' #[].toList).run P w = .ok none w:=by
      obtain ⟨rv,h1,h2⟩:=findKey_run (w:=w) hks hg hk (es:=[]) (en:=[]) (res:=none) rfl (fun j h => by simp at h) rfl
      rcases h2 with ⟨_,rfl⟩ | ⟨_,_,_,_,e,_⟩
      · exact h1
      · cases e
    simp only [this,Result.andThen_ok,Sem.run_bind,run_zeroV z1 z2,Sem.run_pure]
  · rename_i b
    simp only [Option.bind_eq_some_iff,Option.map_eq_some_iff] at h
    obtain ⟨es,he,res,hf,h⟩:=h
    cases hx with
    | map hc =>
    rename_i c
    obtain ⟨en,clock,ho,hl,hr,_⟩:=live_map hS he hc
    obtain ⟨rv,h1,h2⟩:=findKey_run (w:=w) hks hg hk hl hr hf
    have hget : (getObj c).run P w = .ok (.map en clock) w:=by simp [getObj,Sem.run,ho]
    rcases h2 with ⟨rfl,rfl⟩ | ⟨j,a,u,e,rfl,rfl,hau,_,_⟩
    · simp only at h; subst h
      refine ⟨_,?_,hres z zv false hzr⟩
      unfold Instr.lookup
      simp only [Sem.run_bind,run_underlying hu,Result.andThen_ok,hget,Sem.run_pure,hck,h1,run_zeroV z1 z2]
    · simp only at h; subst h
      refine ⟨_,?_,hres a u true hau⟩
      unfold Instr.lookup
      simp only [Sem.run_bind,run_underlying hu,Result.andThen_ok,hget,Sem.run_pure,hck,h1]
  · cases h
theorem at_setObj {w : World} {c : Nat} {o o' : Obj} (h : w.heap[c]? = some o) : At w { w with heap:=w.heap.setIfInBounds c o' } c o':=by
  have hlt:=(Array.getElem?_eq_some_iff.1 h).1
  exact ⟨⟨rfl,rfl,rfl⟩,by simp,by simp [hlt],fun k hk => by
    show (w.heap.setIfInBounds c o')[k]? = _
    rw [Array.getElem?_setIfInBounds_ne (Ne.symm hk)]⟩
theorem amapUpdate_sim {P : Program} {B : World} {G : Gh} {H : AHeap} {w : World} (hS : Sim B G H w) {T : TypeId} {m k x : AV} {m' k' x' : Value} (hm : VR G m m') (hk : VR G k k') (hx : VR G x x') {e : Eff} (h : amapUpdate P T H m k x = some e) :
    OpSim P G H w ((do Instr.mapUpdate T m' k' x'; pure Next.skip : Sem Next).run P w) e:=by
  simp only [amapUpdate,Option.bind_eq_some_iff] at h
  obtain ⟨⟨kt,et⟩,hmt,ks,hks,g,hg,h⟩:=h
  have hu:=mapOf_spec hmt
  unfold putIn at h
  split at h
  rotate_left
  · cases h
  rename_i hself
  have hck:=fun em => check_run (w:=w) (em:=em) hks hg hself hk
  split at h
  rotate_left
  · cases h
  rename_i b
  simp only [Option.bind_eq_some_iff,Option.map_eq_some_iff] at h
  obtain ⟨es,he,res,hf,h⟩:=h
  cases hm with
  | map hc =>
  rename_i c
  obtain ⟨en,clock,ho,hl,hr,hb⟩:=live_map hS he hc
  obtain ⟨rv,h1,h2⟩:=findKey_run (w:=w) hks hg hk hl hr hf
  have hget : (getObj c).run P w = .ok (.map en clock) w:=by simp [getObj,Sem.run,ho]
  have hset : ∀ o,(setObj c o).run P w = .ok () { w with heap:=w.heap.setIfInBounds c o }:=fun o => by simp [setObj,Sem.run,ho]
  have hl' : es.length = en.size:=by simpa using hl
  rcases h2 with ⟨rfl,rfl⟩ | ⟨j,a,u,e0,rfl,rfl,hau,hj,hbits⟩
  · simp only at h; subst h
    refine ⟨.skip,_,.map (en.push { key:=k',val:=x',born:=clock }) (clock + 1),.map es,c,?_,hb,hc,at_setObj ho,by simp [ho,Obj.csize],?_,trivial,⟨undef,.sc .undef,.inr ⟨rfl,rfl⟩⟩,fun l e => by rw [ho] at e; cases e⟩
    · unfold Instr.mapUpdate
      simp only [Sem.run_bind,run_underlying hu,Result.andThen_ok,hget,hck,h1,hset,Sem.run_pure]
    · refine ⟨by simp [hl'],fun i hi hi' => ?_⟩
      by_cases q : i < es.length
      · have:=hr i q (by simp; omega)
        simp only [List.getElem_append_left q,Array.getElem_push_lt (show i < en.size by omega)]
        simpa using this
      · have q2 : i = es.length:=by simp at hi; omega
        subst q2
        simp only [List.getElem_append_right (Nat.le_refl _),Nat.sub_self,List.getElem_cons_zero]
        have : (en.push { key:=k',val:=x',born:=clock })[es.length]'hi' = { key:=k',val:=x',born:=clock }:=by
          simp only [hl',Array.getElem_push_eq]
        rw [this]
        exact ⟨hk,hx⟩
  · simp only at h; subst h
    have hj2 : en[j]? = some e0:=by simpa using hj
    refine ⟨.skip,_,.map (en.modify j fun e => { e with key:=k',val:=x' }) clock,.map es,c,?_,hb,hc,at_setObj ho,by simp [ho,Obj.csize],?_,trivial,⟨undef,.sc .undef,.inr ⟨rfl,rfl⟩⟩,fun l e => by rw [ho] at e; cases e⟩
    · unfold Instr.mapUpdate
      simp only [Sem.run_bind,run_underlying hu,Result.andThen_ok,hget,hck,h1,hj2,Option.map_some,Option.getD_some]
      have hkt : (Instr.keyThatStays e0.key k').run P w = .ok k' w:=by
        unfold Instr.keyThatStays
        rw [if_pos hbits]; rfl
      simp only [hkt,Result.andThen_ok,hset,Sem.run_pure]
    · refine ⟨by simp [hl'],fun i hi hi' => ?_⟩
      have hi1 : i < es.length:=by simpa using hi
      have hi2 : i < en.size:=by omega
      rw [Array.getElem_modify]
      simp only [List.getElem_set]
      by_cases q : j = i
      · subst q
        simp only [if_true]
        exact ⟨hk,hx⟩
      · rw [if_neg q,if_neg q]
        have:=hr i hi1 (by simpa using hi2)
        simpa using this
theorem amakeMap_sim {P : Program} {G : Gh} {H : AHeap} {w : World} {T : TypeId} {r : Option AV} {r' : Option Value} (hr : ∀ a,r = some a→∃ v,r' = some v∧VR G a v) (hn : r = none→r' = none) {e : Eff} (h : amakeMap P T r = some e) :
    OpSim P G H w ((do pure (Next.value (← Instr.makeMap T r')) : Sem Next).run P w) e:=by
  have key : (Instr.makeMap T r').run P w = .ok (.map (some w.heap.size)) (w.alloc (.map #[] 0))→e = .new (.map []) (fun b => .map b)→OpSim P G H w ((do pure (Next.value (← Instr.makeMap T r')) : Sem Next).run P w) e:=by
    rintro h1 rfl
    exact ⟨.map (some w.heap.size),w.alloc (.map #[] 0),.map #[] 0,by simp only [Sem.run_bind,h1,Result.andThen_ok,Sem.run_pure],push_alloc w _,⟨rfl,fun i hi => by simp at hi⟩,trivial,fun b G' _ hb _ => .map hb⟩
  have hnew : (newObj (.map #[] 0)).run P w = .ok w.heap.size (w.alloc (.map #[] 0)):=rfl
  unfold amakeMap at h
  split at h
  · simp only [Option.some.injEq] at h
    refine key ?_ h.symm
    rw [hn rfl]
    simp [Instr.makeMap,hnew,Result.andThen]
  · rename_i k n
    simp only [Option.map_eq_some_iff] at h
    obtain ⟨m,hm,h⟩:=h
    obtain ⟨v,rfl,hv⟩:=hr _ rfl
    refine key ?_ h.symm
    rw [hv.sc_inv]
    simp [Instr.makeMap,hnew,Result.andThen,run_underlying (mapOf_spec (k:=m.1) (e:=m.2) hm),asInt,asIntOf,Sc.val]
  · cases h
end Go.Hem
