/- Joined. -/
import Derived.Test.YtldflacehmpjkaaGreatDoorHemMp
import Derived.Lib.ConvBytes
import Derived.Laws.BytesString
set_option linter.unusedSimpArgs false
set_option linter.unusedVariables false
namespace Go.Hem
theorem acopy_sim {P : Program} {B : World} {G : Gh} {H : AHeap} {w : World} (hS : Sim B G H w) {ts : Array TypeId} (ty : TypeId) {d x : AV} {d' x' : Value} (hd : VR G d d') (hx : VR G x x') {e : Eff} (h : acopy P ts H d x = some e) :
    OpSim P G H w ((do pure (Next.value (← Builtin.copy_ ts ty #[d',x'])) : Sem Next).run P w) e:=by
  simp only [acopy,Option.bind_eq_bind,Option.bind_eq_some_iff] at h
  obtain ⟨dT,t0,el,h1,n,h2,h⟩:=h
  have hu:=sliceElem_spec h1
  cases d <;> try (cases h; done)
  case sc sc =>
    cases sc <;> try (cases h; done)
    simp only [Option.bind_eq_some_iff] at h
    obtain ⟨m,h3,h⟩:=h
    simp at h; subst h
    have hm : (Builtin.lenOf x').run P w = .ok m w:=alen_spec hx h3
    rw [hd.sc_inv]
    obtain ⟨ys,k1⟩ : ∃ ys : Array Value,(Builtin.firstCells n 0 x').run P w = .ok ys w:=by
      have hx0:=hx
      unfold alen at h3
      split at h3 <;> simp at h3
      · cases hx0; exact ⟨#[],by simp [Builtin.firstCells,loadCells,loadCellsFrom]⟩
      · cases hx0 with
        | @immNil a cap => cases a <;> exact ⟨#[],by simp [Builtin.firstCells,loadCells,loadCellsFrom]⟩
        | imm vs g1 g2 g3 g4 g5 g6 => exact ⟨#[],by simp [Builtin.firstCells,loadCells,loadCellsFrom]⟩
      · rw [hx0.sc_inv]; exact ⟨#[],by simp [Builtin.firstCells,Sc.val]⟩
      · rw [hx0.sc_inv]; exact ⟨_,by simp [Builtin.firstCells,Sc.val]; rfl⟩
    refine ⟨_,?_,.int .i64 0,.sc (.int .i64 0),.inl rfl⟩
    have hmin : Nat.min m 0 = 0:=Nat.min_zero m
    simp [Builtin.copy_,t0,run_underlying hu,hm,Sc.val,hmin,run_szOf h2,k1,goInt]
  case slice b off len cap n' =>
    simp only [Option.bind_eq_some_iff] at h
    obtain ⟨cs,h3,m0,h4,xs,h5,h⟩:=h
    split at h
    · rename_i hc
      simp at h; subst h
      obtain ⟨c1,c2⟩:=hc
      have hm : (Builtin.lenOf x').run P w = .ok m0 w:=alen_spec hx h4
      obtain ⟨ys,k1,k2,k3,k4⟩:=asrc_sim (P:=P) hS hx h5
      cases hd with
      | @slice _ _ _ _ _ c cap' sz hcb l1 l2 l3 l4 =>
        obtain ⟨cells,el',e1,e2,e3⟩:=live_cells hS h3 hcb
        have hlc : cs.length ≤ cells.size:=e2.2.1
        have hl:=k2.1
        have hst:=run_storeCells_at P c off el' ys 0 cells w e1 (by omega) k3
        simp only [Nat.add_zero] at hst
        refine ⟨_,_,_,_,c,?_,e3,hcb,at_setRow w c cells _ el' (0,0) e1,?_,BR_splice e2 k2 (by omega) k3,rfl,⟨.int .i64 (min m0 len : Nat),.sc (.int .i64 _),.inl rfl⟩⟩
        · have hmin : Nat.min m0 len = min m0 len:=rfl
          simp [Builtin.copy_,t0,run_underlying hu,hm,hmin,run_szOf h2,k1,hst,goInt]
        · simp [e1,Obj.csize]; omega
    · cases h
theorem aclear_sim {P : Program} {B : World} {G : Gh} {H : AHeap} {w : World} (hS : Sim B G H w) {ts : Array TypeId} (ty : TypeId) {x : AV} {x' : Value} (hx : VR G x x') {e : Eff} (h : aclear P ts H x = some e) :
    OpSim P G H w ((do pure (Next.value (← Builtin.clear_ ts ty #[x'])) : Sem Next).run P w) e:=by
  simp only [aclear,Option.bind_eq_some_iff] at h
  obtain ⟨T,t0,el,h1,n,h2,z,hz,h⟩:=h
  have hu:=sliceElem_spec h1
  obtain ⟨i,zv,z1,z2,z3⟩:=azero_spec hz
  unfold clrTo at h
  split at h
  · simp only [Option.some.injEq] at h; subst h
    rw [hx.sc_inv]
    exact ⟨.value undef,by simp [Builtin.clear_,t0,run_underlying hu,Sc.val,undef],undef,.sc .undef,.inl rfl⟩
  · rename_i b off len cap n'
    cases hx with
    | @slice _ _ _ _ _ c cap' sz hcb l1 l2 l3 l4 =>
      split at h
      · rename_i h0; subst h0
        simp only [Option.some.injEq] at h; subst h
        exact ⟨.value undef,by simp [Builtin.clear_,t0,run_underlying hu,undef],undef,.sc .undef,.inl rfl⟩
      · rename_i h0
        simp only [Option.bind_eq_some_iff] at h
        obtain ⟨cs,h3,h⟩:=h
        split at h
        rotate_left
        · cases h
        rename_i hc
        simp only [Option.some.injEq] at h; subst h
        obtain ⟨rfl,c2,c3,c4⟩:=hc
        obtain ⟨cells,el',e1,e2,e3⟩:=live_cells hS h3 hcb
        have hlc : cs.length ≤ cells.size:=e2.2.1
        have hzr:=of_cells (G:=G) z3
        have hrr:=hzr.rep len
        rw [rep_eq] at hrr
        have hro : AV.ones (rep len z.cells) = true:=ones_rep c4 len
        have hrl : (rep len z.cells).length = len * n':=by rw [len_rep,c3]
        have hys:=hrr.ones hro
        have hyl:=hrr.1
        rw [hrl] at hyl
        have hst:=run_storeCells_at P c off el' _ 0 cells w e1 (by rw [← hyl]; omega) hys
        simp only [Nat.add_zero] at hst
        refine ⟨_,_,_,_,c,?_,e3,hcb,at_setRow w c cells _ el' (0,0) e1,?_,BR_splice e2 hrr (by omega) hys,rfl,⟨undef,.sc .undef,.inl rfl⟩⟩
        · obtain ⟨m,rfl⟩ : ∃ m,len = m + 1:=⟨len - 1,by omega⟩
          simp only [Array.toList_map,Array.toList_range] at hst
          simp [Builtin.clear_,t0,run_underlying hu,run_zeroV z1 z2,Builtin.zeroCells,hst,undef]
        · have hzs : zv.cells.size = n':=by have:=hzr.1; simp at this; omega
          simp [e1,Obj.csize,hzs]; omega
  · cases h
theorem aclosed_sim {P : Program} {G : Gh} {H : AHeap} {w : World} {t : List AV} {ρ : Operand→Value} (hρ : ∀ x,VR G (aev t x) (ρ x)) {o : Oper} (hs : ∀ cs b,o.op ≠ .select cs b) {e : Eff} (h : aclosed P t o = some e) :
    OpSim P G H w ((execOp ρ o).run P w) e:=by
  unfold aclosed at h
  split at h
  · rename_i hc
    split at h
    · rename_i v hv
      simp only [Option.map_eq_some_iff] at h
      obtain ⟨a,ha,rfl⟩:=h
      have he : execOp ρ o = execOp (closedEnv t) o:=execOp_congr o hs (fun x hx => by
        simp only [allClosed,Array.all_eq_true_iff_forall_mem] at hc
        have:=hc x hx
        obtain ⟨v,hv⟩:=Option.isSome_iff_exists.1 this
        simp only [closedEnv,hv,Option.getD_some]
        exact closed_spec hv (hρ x))
      rw [he,run_of_pureSem hv]
      exact ⟨_,rfl,v,of_spec ha,.inl rfl⟩
    · cases h
  · cases h
theorem VRs.mapOps {G : Gh} {t : List AV} {ρ : Operand→Value} (hρ : ∀ x,VR G (aev t x) (ρ x)) (l : Array Operand) : VRs G (l.toList.map (aev t)) (l.map ρ).toList:=by
  rw [Array.toList_map]; exact VRs.map _ hρ
theorem acallee_sim {P : Program} {G : Gh} {H : AHeap} {w : World} {f : FuncId} {args : List AV} {args' : Array Value} (r : VRs G args args'.toList) {e : Eff} (h : acallee P f args = some e) :
    OpSim P G H w ((callFunc f args').run P w) e:=by
  unfold acallee at h
  split at h
  · rename_i fn hf
    split at h
    · rename_i hc
      simp at h; subst h
      simp only [Bool.and_eq_true,Bool.not_eq_true',Option.isSome_iff_exists] at hc
      obtain ⟨⟨c,hb⟩,hn⟩:=hc
      refine ⟨args',?_,r⟩
      have hn' : ¬ fn.name = "runtime.NumGoroutine" := by simpa using hn
      simp [callFunc,hf,hn',hb]
    · cases h
  · cases h
theorem lift1 {P : Program} {G : Gh} {H : AHeap} {w : World} {s : Sem Value} {v : AV} (h : ∃ v',s.run P w = .ok v' w∧VR G v v') : OpSim P G H w ((do pure (Next.value (← s)) : Sem Next).run P w) (.val v):=by
  obtain ⟨v',h1,h2⟩:=h
  exact ⟨.value v',by simp [h1],v',h2,.inl rfl⟩
theorem one_arg {f : Operand→AV} {l : List Operand} {y : AV} (h : l.map f = [y]) : ∃ x,l = [x]∧f x = y:=by
  match l,h with
  | [x],h => exact ⟨x,rfl,by simpa using h⟩
theorem two_args {f : Operand→AV} {l : List Operand} {y z : AV} (h : l.map f = [y,z]) : ∃ x x',l = [x,x']∧f x = y∧f x' = z:=by
  match l,h with
  | [x,x'],h => exact ⟨x,x',rfl,by simpa using h⟩
def refLike : Value→Bool
  | .pointer _ | .slice .. | .map _ | .func .. | .nilFunc | .iface .. | .nilIface => true
  | _ => false
theorem besideNil_run {P : Program} {G : Gh} {w : World} {T : TypeId} {s : Sc} {a : AV} {v : Value} (h : besideNil s a (P.underlying T) = true) (r : VR G a v) :
    refLike s.val = true∧refLike v = true∧(s.val ≠ .nilIface ∨ v ≠ .nilIface)∧(Op.equal T s.val v).run P w = .ok false w∧(Op.equal T v s.val).run P w = .ok false w:=by
  have key : ∀ d : TypeDesc,P.underlying T = some d→∀ x y : Value,(∀ n,(Op.equalIn (n + 1) T x y).run P w = .ok false w)→(Op.equal T x y).run P w = .ok false w:=fun d _ x y h => h 9999
  cases hu : P.underlying T with
  | none => rw [hu] at h; cases s <;> cases a <;> simp [besideNil] at h
  | some d =>
    rw [hu] at h
    cases s <;> cases a <;> cases d <;> first
      | (simp [besideNil] at h; done)
      | (cases r <;> refine ⟨rfl,rfl,by simp [Sc.val],key _ hu _ _ fun n => ?_,key _ hu _ _ fun n => ?_⟩ <;> (rw [Op.equalIn,Sem.run_bind,run_und hu]; rfl))
theorem eqGuard_run {P : Program} {w : World} {T : TypeId} (op : BinOp) (x y : Operand) {a b : Value} (h : refLike a = true) (k : refLike b = true) (hn : a ≠ .nilIface ∨ b ≠ .nilIface) : (eqGuard op T x y a b).run P w = .ok () w:=by
  unfold eqGuard
  cases a <;> simp only [refLike,Bool.false_eq_true] at h <;> cases b <;> simp only [refLike,Bool.false_eq_true] at k <;> cases op <;> first | rfl | (simp at hn)
theorem anil_run {P : Program} {G : Gh} {w : World} {T : TypeId} (op : BinOp) (x y : Operand) {a b : AV} {v v' : Value} (h : anil P T a b = true) (r : VR G a v) (r' : VR G b v') :
    (eqGuard op T x y v v').run P w = .ok () w∧refLike v = true∧refLike v' = true∧(Op.equal T v v').run P w = .ok false w:=by
  unfold anil at h
  split at h
  · have:=r.sc_inv
    subst this
    obtain ⟨h1,h2,h3,h4,h5⟩:=besideNil_run (w:=w) h r'
    exact ⟨eqGuard_run op x y h1 h2 h3,h1,h2,h4⟩
  · have:=r'.sc_inv
    subst this
    obtain ⟨h1,h2,h3,h4,h5⟩:=besideNil_run (w:=w) h r
    exact ⟨eqGuard_run op x y h2 h1 h3.symm,h2,h1,h5⟩
  · cases h
theorem eql_run {P : Program} {w : World} {T : TypeId} {v v' : Value} (h : refLike v = true∧refLike v' = true∧(Op.equal T v v').run P w = .ok false w) : (binOp .eql T v v').run P w = .ok (.bool false) w:=by
  obtain ⟨h1,h2,h3⟩:=h
  cases v <;> simp only [refLike,Bool.false_eq_true] at h1 <;> cases v' <;> simp only [refLike,Bool.false_eq_true] at h2 <;> simp [binOp,h3]
theorem neq_run {P : Program} {w : World} {T : TypeId} {v v' : Value} (h : refLike v = true∧refLike v' = true∧(Op.equal T v v').run P w = .ok false w) : (binOp .neq T v v').run P w = .ok (.bool true) w:=by
  obtain ⟨h1,h2,h3⟩:=h
  cases v <;> simp only [refLike,Bool.false_eq_true] at h1 <;> cases v' <;> simp only [refLike,Bool.false_eq_true] at h2 <;> simp [binOp,h3]
theorem bytes_sim {P : Program} {G : Gh} {H : AHeap} {w : World} {src dst : TypeId} {x : AV} {x' : Value} (hx : VR G x x') (hb : isBytes P src dst = true) {e : Eff} (h : (bytesFrom x).map Eff.fzn = some e) :
    OpSim P G H w ((do pure (Next.value (← convert src dst x')) : Sem Next).run P w) e:=by
  simp only [Option.map_eq_some_iff] at h
  obtain ⟨v,h1,rfl⟩:=h
  unfold bytesFrom at h1
  split at h1
  rotate_left
  · cases h1
  rename_i s
  cases h1
  rw [hx.sc_inv]
  unfold isBytes at hb
  split at hb
  rotate_left
  · cases hb
  rename_i u e hs hd
  split at hb
  rotate_left
  · cases hb
  rename_i he
  have hr:=Lib.run_convert_string_bytes (P:=P) w src dst e s hs hd he
  refine ⟨.slice (some ⟨w.heap.size,0,none⟩) s.size (grownCap w s.size 0 e),Lib.bytesWorld w e s,_,by simp only [Sem.run_bind,Sc.val,hr,Result.andThen_ok,Sem.run_pure],⟨⟨rfl,rfl,rfl⟩,Lib.bytesWorld_size w e s,Lib.bytesWorld_at_new w e s,fun k hk => Lib.bytesWorld_at_old w e s k hk⟩,fun G' _ hz => ?_⟩
  have hlen : s.size = (s.data.toList.map fun b : UInt8 => AV.sc (.int .u8 b.toNat)).length:=by rw [List.length_map,Array.length_toList]; rfl
  have hcap : s.size ≤ grownCap w s.size 0 e:=by
    unfold grownCap Question.cut
    simp
  unfold bytesAV
  rw [hlen]
  refine VR.imm (n:=1) (fun i _ => .int .u8 (s.data.toList.getD i 0).toNat) hz (fun i h => by simp [AV.cells]) (by rw [← hlen]; exact hcap) (fun i j h1 h2 => ?_) (fun _ _ _ _ => rfl) (fun i h j h' => ?_)
  · have hi : i < s.data.size:=by simpa using h1
    have hj : j = 0:=by omega
    subst hj
    have hi' : i < s.size:=hi
    simp [Lib.bytesCells,Array.getElem?_append,List.getD,hi,hi']
  · have hi : i < s.data.size:=by simpa using h
    have hj : j = 0:=by simp [AV.cells] at h'; omega
    subst hj
    simp only [List.getElem_map,AV.cells,List.getElem_cons_zero]
    have hq : s.data.toList.getD i 0 = s.data.toList[i]'(by simpa using hi):=by rw [List.getD_eq_getElem?_getD,List.getElem?_eq_getElem (by simpa using hi)]; rfl
    rw [hq]
    exact VR.sc (G:=G') (.int .u8 _)
theorem run_amethod {P : Program} {T : TypeId} {name : String} {f : FuncId} {v : Value} (h : amethod P T name = some f) (w : World) : (method (P.types.size + Made.depth) T v name).run P w = .ok (f,v) w:=by
  unfold amethod at h
  simp only [Option.bind_eq_some_iff] at h
  obtain ⟨i,hi,m,hm,h⟩:=h
  split at h
  · rename_i hu hf
    split at h
    · rename_i hp
      cases h
      obtain ⟨n,hn⟩ : ∃ n,P.types.size + Made.depth = n + 1:=⟨P.types.size + (Made.depth - 1),by unfold Made.depth; omega⟩
      rw [hn]
      have hp' : m.path.toList = []:=by simpa using hp
      simp [method,typeInfo,hi,hm,hp',follow,hf,receiverAt,run_underlying hu,Place.get]
    · cases h
  · cases h
theorem symC_sim {P : Program} {w : World} {op : BinOp} {T : TypeId} {σ c : Int} {r : AV} (h0 : 0 ≤ σ) (h1 : σ ≤ 99) (h : symC op c = some r) : ∃ b,r = .sc (.bool b)∧(binOp op T (.int .i64 σ) (.int .i64 c)).run P w = .ok (.bool b) w:=by
  unfold symC at h
  cases op <;> simp only [reduceCtorEq] at h
  all_goals
    split at h
    · simp only [Option.some.injEq] at h
      subst h
      refine ⟨_,rfl,?_⟩
      simp [binOp,Op.intCmp]
      omega
    · first
      | (cases h; done)
      | (split at h
         · simp only [Option.some.injEq] at h
           subst h
           refine ⟨_,rfl,?_⟩
           simp [binOp,Op.intCmp]
           omega
         · cases h)
theorem symC_flip {P : Program} {w : World} {op : BinOp} {T : TypeId} {σ c : Int} {r : AV} (h0 : 0 ≤ σ) (h1 : σ ≤ 99) (h : symC (flipOp op) c = some r) : ∃ b,r = .sc (.bool b)∧(binOp op T (.int .i64 c) (.int .i64 σ)).run P w = .ok (.bool b) w:=by
  unfold symC at h
  cases op <;> simp only [flipOp,reduceCtorEq] at h
  all_goals
    split at h
    · simp only [Option.some.injEq] at h
      subst h
      refine ⟨_,rfl,?_⟩
      simp [binOp,Op.intCmp]
      omega
    · first
      | (cases h; done)
      | (split at h
         · simp only [Option.some.injEq] at h
           subst h
           refine ⟨_,rfl,?_⟩
           simp [binOp,Op.intCmp]
           omega
         · cases h)
theorem guard_ints {P : Program} {w : World} {op : BinOp} {T : TypeId} {x y : Operand} {k k' : IntKind} {a b : Int} : (eqGuard op T x y (.int k a) (.int k' b)).run P w = .ok () w:=by
  unfold eqGuard
  cases op <;> rfl
theorem symBinA_sim {P : Program} {G : Gh} {w : World} {op : BinOp} {T : TypeId} {a b r : AV} {v v' : Value} (x y : Operand) (hgB : isAggB P T = some true) (ha : VR G a v) (hb : VR G b v') (h : symBinA P op T a b = some r) :
    ∃ u,(eqGuard op T x y v v').run P w = .ok () w∧(binOp op T v v').run P w = .ok u w∧VR G r u:=by
  unfold symBinA at h
  split at h
  rotate_left
  · cases h
  rename_i ks hk
  split at h
  · cases h
  rename_i hg
  have agg : ∀ neg,symAgg neg ks a b = some r→∃ q vs vs',r = .sc (.bool (if neg then !q else q))∧v = .agg vs∧v' = .agg vs'∧(Op.equal T v v').run P w = .ok q w:=by
    clear h
    intro neg h'
    unfold symAgg at h'
    split at h'
    rotate_left
    · cases h'
    rename_i xs ys
    simp only [Option.map_eq_some_iff] at h'
    obtain ⟨q,hq,rfl⟩:=h'
    have hrun:=keyEq_run (P:=P) (w:=w) (g:=true) hk hgB (show keyEq true ks (.agg xs) (.agg ys) = some q by simp only [keyEq,if_true]; exact hq) ha hb
    cases ha; cases hb
    exact ⟨q,_,_,rfl,rfl,rfl,hrun⟩
  have grd : ∀ op vs vs',(eqGuard op T x y (.agg vs) (.agg vs')).run P w = .ok () w:=by
    intro op vs vs'
    simp only [Bool.not_eq_true] at hg
    unfold eqGuard
    have hp : (Sem.run P (Sem.program Sem.pure) w) = .ok P w:=rfl
    cases op <;> first
      | rfl
      | simp [program,hp,Result.andThen,hg]
  split at h
  · obtain ⟨q,vs,vs',rfl,rfl,rfl,h2⟩:=agg false h
    exact ⟨.bool q,grd _ _ _,by simp [binOp,h2],.sc (.bool _)⟩
  · obtain ⟨q,vs,vs',rfl,rfl,rfl,h2⟩:=agg true h
    exact ⟨.bool (!q),grd _ _ _,by simp [binOp,h2],.sc (.bool _)⟩
  · cases h
theorem symBin_sim {P : Program} {G : Gh} {w : World} {op : BinOp} {T : TypeId} {a b r : AV} {v v' : Value} (x y : Operand) (ha : VR G a v) (hb : VR G b v') (h : symBin P op T a b = some r) :
    ∃ u,(eqGuard op T x y v v').run P w = .ok () w∧(binOp op T v v').run P w = .ok u w∧VR G r u:=by
  unfold symBin at h
  split at h
  · unfold symInt at h
    split at h
    · cases ha with
      | sym h0 h1 =>
      cases hb with
      | sym _ _ =>
      cases op <;> simp only [reduceCtorEq,Option.some.injEq] at h
      all_goals
        subst h
        exact ⟨_,guard_ints,by simp [binOp,Op.intCmp]; rfl,.sc (.bool _)⟩
    · cases ha with
      | sym h0 h1 =>
      rw [hb.sc_inv]
      obtain ⟨b,rfl,h2⟩:=symC_sim (P:=P) (w:=w) (T:=T) h0 h1 h
      exact ⟨_,guard_ints,h2,.sc (.bool _)⟩
    · cases hb with
      | sym h0 h1 =>
      rw [ha.sc_inv]
      obtain ⟨b,rfl,h2⟩:=symC_flip (P:=P) (w:=w) (T:=T) h0 h1 h
      exact ⟨_,guard_ints,h2,.sc (.bool _)⟩
    · cases h
  · rename_i fs hT
    exact symBinA_sim x y (by simp [isAggB,hT]) ha hb h
  · rename_i m e hT
    exact symBinA_sim x y (by simp [isAggB,hT]) ha hb h
  · cases h
theorem run_nilAhead {P : Program} {T : TypeId} {name : String} {f : FuncId} {v : Value} (h : amethod P T name = some f) (w : World) : (nilAhead (P.types.size + Made.depth) T v name).run P w = .ok (some false) w:=by
  unfold amethod at h
  simp only [Option.bind_eq_some_iff] at h
  obtain ⟨i,hi,m,hm,h⟩:=h
  split at h
  · rename_i hu hf
    split at h
    · rename_i hp
      cases h
      obtain ⟨n,hn⟩ : ∃ n,P.types.size + Made.depth = n + 1:=⟨P.types.size + (Made.depth - 1),by unfold Made.depth; omega⟩
      rw [hn]
      have hp' : m.path.toList = []:=by simpa using hp
      simp [nilAhead,typeInfo,hi,hm,hp',followBlind,hf]
    · cases h
  · cases h
theorem aop_sim {P : Program} {B : World} {G : Gh} {H : AHeap} {w : World} (hS : Sim B G H w) {t : List AV} {ρ : Operand→Value} (hρ : ∀ x,VR G (aev t x) (ρ x)) {o : Oper} (hs : ∀ cs b,o.op ≠ .select cs b) {e : Eff} (h : aop P t H o = some e) :
    OpSim P G H w ((execOp ρ o).run P w) e:=by
  have fall : ∀ {e},aclosed P t o = some e→OpSim P G H w ((execOp ρ o).run P w) e:=fun h => aclosed_sim hρ hs h
  unfold aop at h
  split at h
  case h_1 x ho =>
    simp at h; subst h
    exact ⟨_,by simp [execOp,ho],ρ x,hρ x,.inl rfl⟩
  case h_2 x ho =>
    simp at h; subst h
    exact ⟨_,by simp [execOp,ho],ρ x,hρ x,.inl rfl⟩
  case h_3 c a b ho =>
    split at h
    · rename_i hc
      simp at h; subst h
      have:=(hc ▸ hρ c).sc_inv
      refine ⟨.value (ρ a),?_,ρ a,hρ a,.inl rfl⟩
      simp [execOp,ho,this,Sc.val,asBool]
    · rename_i hc
      simp at h; subst h
      have:=(hc ▸ hρ c).sc_inv
      refine ⟨.value (ρ b),?_,ρ b,hρ b,.inl rfl⟩
      simp [execOp,ho,this,Sc.val,asBool]
    · cases h
  case h_4 el ho =>
    split at h
    · cases h
    simp only [Option.bind_eq_some_iff] at h
    obtain ⟨z,h1,h⟩:=h
    split at h
    · rename_i hz
      simp at h; subst h
      obtain ⟨i,zv,g1,g2,g3⟩:=azero_spec h1
      obtain ⟨ob,q1,q2,q3⟩:=newVar_sim (P:=P) (G:=G) (w:=w) (e:=el) (of_cells g3) hz
      refine ⟨.pointer (some ⟨w.heap.size,0,none⟩),w.alloc ob,ob,?_,push_alloc w ob,q2,q3,fun b G' _ hb _ => .ptr hb⟩
      simp [execOp,ho,Instr.alloc,run_zeroV g1 g2,q1]
    · cases h
  case h_5 el x ho =>
    split at h
    · cases h
    split at h
    · rename_i hz
      simp at h; subst h
      obtain ⟨ob,q1,q2,q3⟩:=newVar_sim (P:=P) (G:=G) (w:=w) (e:=el) ((hρ x).cells hz) hz
      refine ⟨.pointer (some ⟨w.heap.size,0,none⟩),w.alloc ob,ob,?_,push_alloc w ob,q2,q3,fun b G' _ hb _ => .ptr hb⟩
      simp [execOp,ho,Instr.box,q1]
    · cases h
  case h_6 T parts ho =>
    simp only [Option.map_eq_some_iff] at h
    obtain ⟨v,h1,rfl⟩:=h
    have:=lift1 (H:=H) (abuild_sim (w:=w) hρ h1)
    simpa [execOp,ho] using this
  case h_7 T len parts ho =>
    have:=abuildSlice_sim (H:=H) (w:=w) hρ h
    simpa [execOp,ho] using this
  case h_8 T a ho =>
    simp only [Option.map_eq_some_iff] at h
    obtain ⟨v,h1,rfl⟩:=h
    have:=lift1 (H:=H) (aload_sim hS (hρ a) h1)
    simpa [execOp,ho] using this
  case h_9 T a x ho =>
    have:=astore_sim hS (hρ a) (hρ x) h
    simpa [execOp,ho] using this
  case h_10 x ho =>
    split at h
    · rename_i b off hx
      simp at h; subst h
      have hv:=hx ▸ hρ x
      refine ⟨.value (ρ x),?_,ρ x,hv,.inl rfl⟩
      cases hr : ρ x <;> rw [hr] at hv <;> cases hv
      simp [execOp,ho,hr]
    · rename_i cs hx
      simp at h; subst h
      have hv:=hx ▸ hρ x
      refine ⟨.value (ρ x),?_,ρ x,hv,.inl rfl⟩
      cases hr : ρ x <;> rw [hr] at hv <;> cases hv
      simp [execOp,ho,hr]
    · rename_i f a c hx
      simp at h; subst h
      have hv:=hx ▸ hρ x
      refine ⟨.value (ρ x),?_,ρ x,hv,.inl rfl⟩
      cases hr : ρ x <;> rw [hr] at hv <;> cases hv
      simp [execOp,ho,hr]
    · rename_i b hx
      simp at h; subst h
      have hv:=hx ▸ hρ x
      refine ⟨.value (ρ x),?_,ρ x,hv,.inl rfl⟩
      cases hr : ρ x <;> rw [hr] at hv <;> cases hv
      simp [execOp,ho,hr]
    · rename_i n T v a c hx
      split at h
      · rename_i hm
        simp at h; subst h
        obtain ⟨f,hf⟩:=Option.isSome_iff_exists.1 hm
        have hv:=hx ▸ hρ x
        refine ⟨.value (ρ x),?_,ρ x,hv,.inl rfl⟩
        obtain ⟨f',c',hr,h1,h3⟩ : ∃ f' c' : List Value,ρ x = .func (.method n) f'.toArray c'.toArray∧(AV.iface T v :: a).length = f'.length∧(∀ i (h : i < (AV.iface T v :: a).length) (h' : i < f'.length),VR G ((AV.iface T v :: a)[i]) (f'[i])):=by
          cases hr : ρ x <;> rw [hr] at hv <;> cases hv
          exact ⟨_,_,rfl,by assumption,by assumption⟩
        cases f' with
        | nil => simp at h1
        | cons y ys =>
          have h0:=h3 0 (by simp) (by simp)
          simp only [List.getElem_cons_zero] at h0
          cases h0 with
          | iface h00 =>
            rename_i v'
            have hp : (Sem.run P (Sem.program Sem.pure) w) = .ok P w:=rfl
            simp [execOp,ho,hr,program,hp,Result.andThen,run_nilAhead hf]
      · cases h
    · cases h
  case h_11 fn first captured ho =>
    simp at h; subst h
    have h1:=VRs.mapOps hρ first
    have h2:=VRs.mapOps hρ captured
    refine ⟨.value (.func fn (first.map ρ) (captured.map ρ)),by simp [execOp,ho,Instr.makeFunc],_,?_,.inl rfl⟩
    have:=VR.func (fn:=fn) h1.1 h2.1 h1.2 h2.2
    simp only [Array.toArray_toList] at this
    exact this
  case h_12 T l c ho =>
    have:=amakeSlice_sim (H:=H) (w:=w) (hρ l) (hρ c) h
    simpa [execOp,ho] using this
  case h_13 T x lo hi mx ho =>
    split at h
    · exact fall h
    · split at h
      · rename_i hm
        simp only [Option.map_eq_some_iff] at h
        obtain ⟨v,h1,rfl⟩:=h
        have:=lift1 (H:=H) (aslice_sim hS hρ (hρ x) h1)
        have hm' : mx = none:=by simpa using hm
        simpa [execOp,ho,hm'] using this
      · simp only [Option.map_eq_some_iff] at h
        obtain ⟨v,h1,rfl⟩:=h
        have:=lift1 (H:=H) (w:=w) (aslice3_sim hρ (hρ x) h1)
        simpa [execOp,ho] using this
  case h_14 s x f ho =>
    simp only [Option.map_eq_some_iff] at h
    obtain ⟨v,h1,rfl⟩:=h
    have:=lift1 (H:=H) (w:=w) (afieldAddr_sim (hρ x) h1)
    simpa [execOp,ho] using this
  case h_15 s x f ho =>
    simp only [Option.map_eq_some_iff] at h
    obtain ⟨v,h1,rfl⟩:=h
    have:=lift1 (H:=H) (w:=w) (afield_sim (hρ x) h1)
    simpa [execOp,ho] using this
  case h_16 T x ix ho =>
    simp only [Option.map_eq_some_iff] at h
    obtain ⟨v,h1,rfl⟩:=h
    have:=lift1 (H:=H) (w:=w) (aindexAddr_sim (hρ x) (hρ ix) h1)
    simpa [execOp,ho] using this
  case h_17 op T x y yt ho =>
    split at h
    · rename_i hc
      simp at h; subst h
      obtain ⟨h1,h2⟩:=anil_run (w:=w) op x y hc.2 (hρ x) (hρ y)
      refine ⟨.value (.bool false),?_,_,.sc (.bool false),.inl rfl⟩
      rw [hc.1] at h1
      simp [execOp,ho,h1,hc.1,eql_run h2]
    · split at h
      · rename_i hc
        simp at h; subst h
        obtain ⟨h1,h2⟩:=anil_run (w:=w) op x y hc.2 (hρ x) (hρ y)
        refine ⟨.value (.bool true),?_,_,.sc (.bool true),.inl rfl⟩
        rw [hc.1] at h1
        simp [execOp,ho,h1,hc.1,neq_run h2]
      · cases hq : aclosed P t o with
        | some e' =>
          rw [hq] at h
          simp only [Option.some_or,Option.some.injEq] at h
          subst h
          exact fall hq
        | none =>
          rw [hq] at h
          simp only [Option.none_or,Option.map_eq_some_iff] at h
          obtain ⟨r,h1,rfl⟩:=h
          obtain ⟨u,g1,g2,g3⟩:=symBin_sim (w:=w) x y (hρ x) (hρ y) h1
          refine ⟨.value u,?_,u,g3,.inl rfl⟩
          simp [execOp,ho,g1,g2]
  case h_18 x ix ho =>
    split at h
    · rename_i vs hx
      simp only [Option.map_eq_some_iff] at h
      obtain ⟨v,h1,rfl⟩:=h
      have hv:=hx ▸ hρ x
      cases hr : ρ x <;> rw [hr] at hv <;> cases hv
      rename_i vs' k1 k2
      obtain ⟨y,hy,hvy⟩:=VRs.get ⟨k1,k2⟩ h1
      refine ⟨.value y,?_,y,hvy,.inl rfl⟩
      simp [execOp,ho,hr,Instr.extract,hy]
    · cases h
  case h_19 c ho =>
    split at h
    · rename_i f hf
      split at h
      · rename_i g first captured hg
        have hv:=hg ▸ hρ f
        cases hr : ρ f <;> rw [hr] at hv <;> cases hv
        rename_i f' c' k1 k2 k3 k4
        have hargs : VRs G (first ++ c.args.toList.map (aev t) ++ captured) (f'.toArray ++ c.args.map ρ ++ c'.toArray).toList:=by
          simp only [Array.toList_append]
          exact (VRs.append ⟨k1,k2⟩ (VRs.mapOps hρ c.args)).append ⟨k3,k4⟩
        have:=acallee_sim (H:=H) (w:=w) hargs h
        simpa [execOp,ho,resolve,hf,hr,Deferred.ofValue,invoke] using this
      · rename_i l hg
        simp at h; subst h
        have hv:=hg ▸ hρ f
        cases hr : ρ f <;> rw [hr] at hv <;> cases hv
        rename_i cc hcc
        refine ⟨cc,c.args.map ρ,hcc,?_,VRs.mapOps hρ c.args⟩
        simp [execOp,ho,resolve,hf,hr,Deferred.ofValue,invoke]
      · cases h
    · rename_i hf
      split at h
      · rename_i b off len cap n e h1 h2
        simp at h; subst h
        obtain ⟨t0,h3,h4⟩:=Option.bind_eq_some_iff.1 h2
        obtain ⟨x,hc,h1⟩:=one_arg h1
        · skip
          have hv:=h1 ▸ hρ x
          cases hr : ρ x <;> rw [hr] at hv <;> cases hv
          refine ⟨.value (.int .i64 len),?_,_,.sc (.int .i64 len),.inl rfl⟩
          have ha : c.args = #[x]:=by rw [← Array.toArray_toList (xs:=c.args),hc]
          simp [execOp,ho,resolve,hf,invoke,builtin,Builtin.len_,h3,ha,hr,run_underlying h4,goInt]
      · rename_i l e h1 h2
        simp at h; subst h
        obtain ⟨t0,h3,h4⟩:=Option.bind_eq_some_iff.1 h2
        obtain ⟨x,hc,h1⟩:=one_arg h1
        · skip
          have hv:=h1 ▸ hρ x
          have hsh : ∃ ad cap,ρ x = .slice ad l.length cap:=by
            cases hr : ρ x <;> rw [hr] at hv <;> cases hv <;> exact ⟨_,_,rfl⟩
          obtain ⟨ad,cap,hr⟩:=hsh
          refine ⟨.value (.int .i64 l.length),?_,_,.sc (.int .i64 l.length),.inl rfl⟩
          have ha : c.args = #[x]:=by rw [← Array.toArray_toList (xs:=c.args),hc]
          simp [execOp,ho,resolve,hf,invoke,builtin,Builtin.len_,h3,ha,hr,run_underlying h4,goInt]
      · exact fall h
    · rename_i hf
      split at h
      · rename_i s x h1
        obtain ⟨s',x',hc,rfl,rfl⟩:=two_args h1
        · skip
          have ha : c.args = #[s',x']:=by rw [← Array.toArray_toList (xs:=c.args),hc]
          have:=aappend_sim hS o.type (hρ s') (hρ x') h
          simpa [execOp,ho,resolve,hf,invoke,builtin,ha] using this
      · cases h
    · rename_i hf
      split at h
      · rename_i s x h1
        obtain ⟨s',x',hc,rfl,rfl⟩:=two_args h1
        · skip
          have ha : c.args = #[s',x']:=by rw [← Array.toArray_toList (xs:=c.args),hc]
          have:=acopy_sim hS o.type (hρ s') (hρ x') h
          simpa [execOp,ho,resolve,hf,invoke,builtin,ha] using this
      · cases h
    · rename_i hf
      split at h
      · rename_i x h1
        obtain ⟨x',hc,rfl⟩:=one_arg h1
        have ha : c.args = #[x']:=by rw [← Array.toArray_toList (xs:=c.args),hc]
        have:=aclear_sim hS o.type (hρ x') h
        simpa [execOp,ho,resolve,hf,invoke,builtin,ha] using this
      · cases h
    · rename_i r name hf
      split at h
      · rename_i T v hv0
        simp only [Option.bind_eq_some_iff] at h
        obtain ⟨f,h1,h⟩:=h
        have hv:=hv0 ▸ hρ r
        cases hr : ρ r <;> rw [hr] at hv <;> cases hv
        rename_i v' hv'
        have hargs : VRs G (v :: c.args.toList.map (aev t)) (#[v'] ++ c.args.map ρ).toList:=by
          simp only [Array.toList_append,List.singleton_append]
          exact (VRs.append (VRs.cons hv' VRs.nil) (VRs.mapOps hρ c.args))
        have:=acallee_sim (H:=H) (w:=w) hargs h
        have hm:=run_amethod (v:=v') h1 w
        have h0 : (#[Value.iface T v'] ++ Array.map ρ c.args)[0]? = some (.iface T v'):=by rw [Array.getElem?_append_left (by simp)]; rfl
        have hex:=Array.extract_size (xs:=Array.map ρ c.args)
        rw [Array.size_map] at hex
        simpa [execOp,ho,resolve,hf,hr,invoke,callMethod,hm,h0,hex] using this
      · cases h
    · exact fall h
  case h_20 T r ho =>
    have:=amakeMap_sim (P:=P) (G:=G) (H:=H) (w:=w) (r':=r.map ρ) (fun a ha => by
      cases r with
      | none => simp at ha
      | some y => simp only [Option.map_some,Option.some.injEq] at ha; subst ha; exact ⟨ρ y,rfl,hρ y⟩) (fun q => by cases r with
      | none => rfl
      | some y => simp at q) h
    simpa [execOp,ho] using this
  case h_21 T x ix ok ho =>
    simp only [Option.map_eq_some_iff] at h
    obtain ⟨v,h1,rfl⟩:=h
    have:=lift1 (H:=H) (alookup_sim hS (hρ x) (hρ ix) h1)
    simpa [execOp,ho] using this
  case h_22 T m k x ho =>
    have:=amapUpdate_sim hS (hρ m) (hρ k) (hρ x) h
    simpa [execOp,ho] using this
  case h_23 src dst x ho =>
    split at h
    · rename_i hb
      have:=bytes_sim (H:=H) (w:=w) (hρ x) hb h
      simpa [execOp,ho] using this
    · exact fall h
  case h_24 T x ho =>
    split at h
    · cases h
    · rename_i d hnot hu
      simp only [Option.some.injEq] at h; subst h
      refine ⟨.value (.iface T (ρ x)),?_,_,.iface (hρ x),.inl rfl⟩
      have hni : ∀ ms,d ≠ .interface ms:=fun ms e => by subst e; exact hnot ms rfl
      simp only [execOp,ho,Instr.makeInterface,Sem.run_bind,run_underlying hu,Result.andThen_ok]
      cases d <;> first | rfl | exact absurd rfl (hni _)
    · cases h
  case h_25 => exact fall h
theorem push_bytes : ∀ (ns : List Int) (s : ByteArray),ns.foldl (fun r n => r.push (UInt8.ofNat n.toNat)) s = ⟨s.data ++ (ns.map fun n => UInt8.ofNat n.toNat).toArray⟩
  | [],s => by simp
  | n :: ns,s => by
    rw [List.foldl_cons,push_bytes ns]
    simp [ByteArray.push]
theorem bytes_ints {G : Gh} : ∀ {cs : List AV} {ys : List Value} {l : List UInt8},cs.mapM byteOf = some l→VRs G cs ys→∃ ns : List Int,ys = ns.map (Value.int .u8)∧l = ns.map fun n => UInt8.ofNat n.toNat
  | [],ys,l,h,hv => by
    simp at h; subst h
    have : ys = []:=List.eq_nil_of_length_eq_zero hv.1.symm
    exact ⟨[],by simp [this],rfl⟩
  | c :: cs,[],l,h,hv => by have:=hv.1; simp at this
  | c :: cs,y :: ys,l,h,hv => by
    simp only [List.mapM_cons,Option.bind_eq_bind,Option.bind_eq_some_iff,Option.pure_def,Option.some.injEq] at h
    obtain ⟨b,hb,l',hl,rfl⟩:=h
    have h0:=hv.2 0 (by simp) (by simp)
    have ht : VRs G cs ys:=⟨by have:=hv.1; simpa using this,fun i h1 h2 => hv.2 (i + 1) (by simpa using h1) (by simpa using h2)⟩
    obtain ⟨ns,rfl,rfl⟩:=bytes_ints hl ht
    unfold byteOf at hb
    split at hb
    · rename_i n
      cases hb
      have:=h0.sc_inv
      exact ⟨n :: ns,by simpa [Sc.val] using this,rfl⟩
    · cases hb
theorem strOf_sim {P : Program} {B : World} {G : Gh} {H : AHeap} {w : World} (hS : Sim B G H w) {src dst : TypeId} {x : AV} {x' : Value} (hx : VR G x x') (hb : isStrOf P src dst = true) {v : AV} (h : strOf H x = some v) :
    ∃ v',(convert src dst x').run P w = .ok v' w∧VR G v v':=by
  unfold isStrOf at hb
  split at hb
  rotate_left
  · cases hb
  rename_i e hs hd
  split at hb
  rotate_left
  · cases hb
  rename_i he
  have main : ∀ m cs l,alen x = some m→asrc 1 H x m = some cs→cs.mapM byteOf = some l→(∃ a cap,x' = .slice (some a) m cap)→(convert src dst x').run P w = .ok (.string ⟨l.toArray⟩) w:=by
    intro m cs l h1 h2 h3 ⟨a,cap,e⟩
    obtain ⟨ys,k1,k2,k3,k4⟩:=asrc_sim (P:=P) hS hx h2
    obtain ⟨ns,rfl,rfl⟩:=bytes_ints h3 k2
    subst e
    rw [run_convert_bytes_string w src dst e _ _ _ hs he hd]
    simp only [Builtin.firstCells,Nat.mul_one] at k1
    rw [run_bytesToString w a m cap ns k1,push_bytes]
    simp
  unfold strOf at h
  split at h
  · cases h
  · rename_i y hno
    simp only [Option.bind_eq_some_iff,Option.map_eq_some_iff] at h
    obtain ⟨m,h1,cs,h2,l,h3,rfl⟩:=h
    refine ⟨.string ⟨l.toArray⟩,main m cs l h1 h2 h3 ?_,.sc (.str _)⟩
    cases x with
    | sc z => exact absurd rfl (hno z)
    | slice b off len cap n =>
      simp only [alen,Option.some.injEq] at h1
      subst h1
      cases hx with
      | slice hc => exact ⟨_,_,rfl⟩
    | imm xs =>
      simp only [alen,Option.some.injEq] at h1
      subst h1
      cases hx with
      | immNil => exact ⟨_,_,rfl⟩
      | imm => exact ⟨_,_,rfl⟩
    | _ => simp [alen] at h1
theorem amapLen_sim {P : Program} {B : World} {G : Gh} {H : AHeap} {w : World} (hS : Sim B G H w) {t : List AV} {ρ : Operand→Value} (hρ : ∀ x,VR G (aev t x) (ρ x)) {o : Oper} {e : Eff} (h : amapLen P t H o = some e) :
    OpSim P G H w ((execOp ρ o).run P w) e:=by
  unfold amapLen at h
  split at h
  · rename_i src dst x ho
    split at h
    · rename_i hb
      simp only [Option.map_eq_some_iff] at h
      obtain ⟨v,h1,rfl⟩:=h
      have:=lift1 (H:=H) (strOf_sim (P:=P) hS (hρ x) hb h1)
      simpa [execOp,ho] using this
    · cases h
  · rename_i el ho
    split at h
    rotate_left
    · cases h
    simp only [Option.bind_eq_some_iff] at h
    obtain ⟨z,h1,h⟩:=h
    split at h
    · rename_i hz
      simp at h; subst h
      obtain ⟨i,zv,g1,g2,g3⟩:=azero_spec h1
      obtain ⟨ob,q1,q2,q3,q4⟩:=newVar_simT (P:=P) (G:=G) (w:=w) (e:=el) (of_cells g3) hz
      refine ⟨.pointer (some ⟨w.heap.size,0,none⟩),w.alloc ob,ob,?_,push_alloc w ob,q2,q3,⟨_,q4,fun _ => rfl⟩,fun b G' _ hb _ => .ptr hb⟩
      simp [execOp,ho,Instr.alloc,run_zeroV g1 g2,q1]
    · cases h
  · rename_i el x ho
    split at h
    rotate_left
    · cases h
    split at h
    · rename_i hz
      simp at h; subst h
      obtain ⟨ob,q1,q2,q3,q4⟩:=newVar_simT (P:=P) (G:=G) (w:=w) (e:=el) ((hρ x).cells hz) hz
      refine ⟨.pointer (some ⟨w.heap.size,0,none⟩),w.alloc ob,ob,?_,push_alloc w ob,q2,q3,⟨_,q4,fun _ => rfl⟩,fun b G' _ hb _ => .ptr hb⟩
      simp [execOp,ho,Instr.box,q1]
    · cases h
  rotate_left
  · cases h
  rename_i c ho
  split at h
  rotate_left
  · cases h
  rename_i hf
  split at h
  rotate_left
  · cases h
  rename_i x k1 el hx h2
  obtain ⟨t0,h3,h4⟩:=Option.bind_eq_some_iff.1 h2
  split at h
  rotate_left
  · cases h
  rename_i b hb
  simp only [Option.map_eq_some_iff] at h
  obtain ⟨es,hes,rfl⟩:=h
  have hv:=hb ▸ hρ x
  have ha : c.args = #[x]:=by rw [← Array.toArray_toList (xs:=c.args),hx]
  generalize hr : ρ x = y at hv
  cases hv with
  | map hc =>
  rename_i c'
  obtain ⟨en,clock,ho',hl,_,_⟩:=live_map hS hes hc
  have hget : (getObj c').run P w = .ok (.map en clock) w:=by simp [getObj,Sem.run,ho']
  refine ⟨.value (.int .i64 es.length),?_,_,.sc (.int .i64 es.length),.inl rfl⟩
  simp [execOp,ho,resolve,hf,invoke,builtin,Builtin.len_,h3,ha,hr,run_underlying h4,goInt,hget,hl]
theorem app_simT {P : Program} {B : World} {G : Gh} {H : AHeap} {w : World} (hS : Sim B G H w) {t : List AV} {ρ : Operand→Value} (hρ : ∀ x,VR G (aev t x) (ρ x)) {o : Oper} {T : TypeId} (hT : appEl P o = some T) {e : Eff} (h : aop P t H o = some e) :
    OpSim P G H w ((execOp ρ o).run P w) (tagA T H e):=by
  unfold appEl at hT
  split at hT
  rotate_left
  · cases hT
  rename_i c ho
  split at hT
  rotate_left
  · cases hT
  rename_i hf
  simp only [Option.bind_eq_some_iff] at hT
  obtain ⟨sT,h1,el,h2,h3⟩:=hT
  split at h3
  rotate_left
  · cases h3
  cases h3
  unfold aop at h
  simp only [ho,hf] at h
  split at h
  rotate_left
  · cases h
  rename_i s x hl
  obtain ⟨s',x',hc,rfl,rfl⟩:=two_args hl
  have ha : c.args = #[s',x']:=by rw [← Array.toArray_toList (xs:=c.args),hc]
  have:=(aappend_sim2 hS o.type (hρ s') (hρ x') h).2 T (by rw [h1]; exact h2)
  simpa [execOp,ho,resolve,hf,invoke,builtin,ha] using this
theorem aopM_sim {P : Program} {B : World} {G : Gh} {H : AHeap} {w : World} (hS : Sim B G H w) {t : List AV} {ρ : Operand→Value} (hρ : ∀ x,VR G (aev t x) (ρ x)) {o : Oper} (hs : ∀ cs b,o.op ≠ .select cs b) {e : Eff} (h : aopM P t H o = some e) :
    OpSim P G H w ((execOp ρ o).run P w) e:=by
  unfold aopM at h
  split at h
  · rename_i e0 q
    cases h
    unfold tagE
    split
    · rename_i T hT
      exact app_simT hS hρ hT q
    · exact aop_sim hS hρ hs q
  · exact amapLen_sim hS hρ h
theorem appEl_W {P : Program} {o : Oper} {T : TypeId} (h : appEl P o = some T) : heapless o.op = false∧readerKind o.op = false:=by
  unfold appEl at h
  split at h
  rotate_left
  · cases h
  rename_i c ho
  split at h
  rotate_left
  · cases h
  rename_i hf
  rw [ho]
  simp [heapless,readerKind,hf]
theorem tagE_of {P : Program} {H : AHeap} {o : Oper} {e : Eff} (h : heapless o.op = true ∨ readerKind o.op = true) : tagE P H o e = e:=by
  unfold tagE
  split
  · rename_i T hT
    obtain ⟨h1,h2⟩:=appEl_W hT
    rw [h1,h2] at h
    rcases h with h | h <;> cases h
  · rfl
theorem tagE_val {P : Program} {H : AHeap} {o : Oper} {v : AV} : tagE P H o (.val v) = .val v:=by
  unfold tagE; split <;> rfl
theorem aopM_of {P : Program} {t : List AV} {H : AHeap} {o : Oper} {e : Eff} (h : aop P t H o = some e) : aopM P t H o = some (tagE P H o e):=by
  unfold aopM; rw [h]
end Go.Hem
set_option linter.unusedSimpArgs false
set_option linter.unusedVariables false
namespace Go.Hem
theorem Same.sim {B w w' : World} (h : Same w w') (a : w.os = B.os) (b : w.tape = B.tape) (c : w.output = B.output) : w'.os = B.os∧w'.tape = B.tape∧w'.output = B.output :=
  ⟨h.os.trans a,h.tape.trans b,h.output.trans c⟩
theorem own_block {B : World} {G : Gh} {H : AHeap} {w : World} (hS : Sim B G H w) {b c : Nat} {x : Blk} (h : H.get b = some x) (hc : G.β b = some c) : B.heap.size ≤ c:=by
  rcases Nat.lt_or_ge c B.heap.size with hlt | hge
  · have h4:=hS.nofz b _ c h hc
    rw [hS.base c hlt] at h4
    simp at h4; omega
  · exact hge
def Gh.at (G : Gh) (b c : Nat) (s : Option (Nat × TypeId)) : Gh :=
  ⟨fun b' => if b' = b then some c else G.β b',G.fz,fun c' => if c' = c then s else G.sz c',G.sym⟩
theorem Gh.ext_at {G : Gh} {b c : Nat} {s : Option (Nat × TypeId)} (h : G.β b = none) (hs : G.sz c = none ∨ G.sz c = s) : Ext G (G.at b c s):=by
  refine ⟨fun b' c' h' => ?_,fun c' o h' => h',fun c' s' h' => ?_,rfl⟩
  · simp only [Gh.at]
    split
    · rename_i e; subst e; rw [h] at h'; cases h'
    · exact h'
  · simp only [Gh.at]
    split
    · rename_i e; subst e
      rcases hs with hs | hs
      · rw [hs] at h'; cases h'
      · rw [← hs]; exact h'
    · exact h'
theorem sim_push {B : World} {G : Gh} {H : AHeap} {w w' : World} {x : Blk} {o : Obj} (hS : Sim B G H w) (hp : Push w w' o) (hb : BR G x o) (hpl : Obj.plain o) (hn : G.β H.next = none) :
    Sim B (G.at H.next w.heap.size (Obj.csize o)) (H.alloc x) w'∧Step G H w (G.at H.next w.heap.size (Obj.csize o)) (H.alloc x) w':=by
  obtain ⟨hsame,hsz,hnew,hold⟩:=hp
  obtain ⟨e1,e2,e3⟩:=hsame.sim hS.os hS.tape hS.output
  have hz0 : G.sz w.heap.size = none:=by
    cases hq : G.sz w.heap.size with
    | none => rfl
    | some s => exact absurd (hS.szr _ _ hq) (by omega)
  have hx : Ext G (G.at H.next w.heap.size (Obj.csize o)):=Gh.ext_at hn (.inl hz0)
  have hβ : ∀ b,b ≠ H.next→(G.at H.next w.heap.size (Obj.csize o)).β b = G.β b:=fun b hb => by simp [Gh.at,hb]
  have hβ' : (G.at H.next w.heap.size (Obj.csize o)).β H.next = some w.heap.size:=by simp [Gh.at]
  have hlt : ∀ {c o'},w.heap[c]? = some o'→c < w.heap.size:=fun h => (Array.getElem?_eq_some_iff.1 h).1
  have hlt' : ∀ {c o'},w'.heap[c]? = some o'→c < w'.heap.size:=fun h => (Array.getElem?_eq_some_iff.1 h).1
  have getc : ∀ b y,(H.alloc x).get b = some y→(b = H.next∧y = x) ∨ (b ≠ H.next∧H.get b = some y):=fun b y h => by
    by_cases e : b = H.next
    · subst e; rw [AHeap.get_alloc_self] at h; exact .inl ⟨rfl,(Option.some.inj h).symm⟩
    · rw [AHeap.get_alloc_ne H x e] at h; exact .inr ⟨e,h⟩
  constructor
  · refine ⟨e1,e2,e3,by have:=hS.size; omega,hS.base,?_,?_,?_,?_,?_,?_,?_,?_,hS.frz.ext hx rfl⟩
    · intro c o' h
      have h':=hS.fz c o' h
      rw [hold c (hlt h')]; exact h'
    · intro b y c h1 h2
      rcases getc b y h1 with ⟨rfl,rfl⟩ | ⟨hne,h3⟩
      · rw [hβ'] at h2; cases h2
        exact ⟨o,hnew,hb.mono hx⟩
      · rw [hβ b hne] at h2
        obtain ⟨o',h4,h5⟩:=hS.live b y c h3 h2
        exact ⟨o',by rw [hold c (hlt h4)]; exact h4,h5.mono hx⟩
    · intro b b' y y' c h1 h2 h3 h4
      rcases getc b y h1 with ⟨rfl,rfl⟩ | ⟨hne,h5⟩ <;> rcases getc b' y' h2 with ⟨rfl,rfl⟩ | ⟨hne',h6⟩
      · rfl
      · rw [hβ'] at h3; rw [hβ b' hne'] at h4; cases h3
        exact absurd (hS.rng _ _ h4) (by omega)
      · rw [hβ'] at h4; rw [hβ b hne] at h3; cases h4
        exact absurd (hS.rng _ _ h3) (by omega)
      · rw [hβ b hne] at h3; rw [hβ b' hne'] at h4
        exact hS.inj b b' y y' c h5 h6 h3 h4
    · intro b y c h1 h2
      rcases getc b y h1 with ⟨rfl,rfl⟩ | ⟨hne,h3⟩
      · rw [hβ'] at h2; cases h2
        cases hf : G.fz w.heap.size with
        | none => exact hf
        | some o' => exact absurd (hlt (hS.fz _ _ hf)) (by omega)
      · rw [hβ b hne] at h2; exact hS.nofz b y c h3 h2
    · intro b c h
      by_cases e : b = H.next
      · subst e; rw [hβ'] at h; cases h; omega
      · rw [hβ b e] at h; have:=hS.rng b c h; omega
    · intro c o' h1 h2
      by_cases e : c = w.heap.size
      · subst e; rw [hnew] at h2; cases h2; exact .inl hpl
      · have : c < w.heap.size:=by have:=hlt' h2; rw [hsz] at this; omega
        rw [hold c this] at h2; exact hS.plain c o' h1 h2
    · intro c o' h1 h2
      by_cases e : c = w.heap.size
      · subst e; rw [hnew] at h2; cases h2; simp [Gh.at]
      · have : c < w.heap.size:=by have:=hlt' h2; rw [hsz] at this; omega
        rw [hold c this] at h2
        simp only [Gh.at,if_neg e]; exact hS.sz c o' h1 h2
    · intro c s h
      by_cases e : c = w.heap.size
      · subst e; omega
      · simp only [Gh.at,if_neg e] at h; have:=hS.szr c s h; omega
  · refine ⟨hx,?_,by simp,by omega,fun c hc _ => hold c hc,?_,?_,fun c o' h1 h2 => (by simp only [Gh.at] at h1; rw [h1] at h2; cases h2),fun c l h => ⟨l,by rw [hold c (hlt h)]; exact h⟩⟩
    · intro b c h
      by_cases e : b = H.next
      · exact .inr ⟨by omega,by simp; omega⟩
      · rw [hβ b e] at h; exact .inl h
    · intro b y h1 h2
      rw [AHeap.get_alloc_lt H x (AHeap.get_lt h1)]; exact h1
    · intro b y c h1 h2 h3
      rcases getc b y h1 with ⟨rfl,rfl⟩ | ⟨hne,h4⟩
      · rw [hβ'] at h2; cases h2; omega
      · rw [hβ b hne] at h2; exact ⟨b,y,h4,h2⟩
def Gh.fzAt (G : Gh) (c : Nat) (o : Obj) : Gh :=
  ⟨G.β,fun c' => if c' = c then some o else G.fz c',fun c' => if c' = c then Obj.csize o else G.sz c',G.sym⟩
theorem sim_pushF {B : World} {G : Gh} {H : AHeap} {w w' : World} {o : Obj} (hS : Sim B G H w) (hp : Push w w' o) :
    Sim B (G.fzAt w.heap.size o) H w'∧Step G H w (G.fzAt w.heap.size o) H w':=by
  obtain ⟨hsame,hsz,hnew,hold⟩:=hp
  obtain ⟨e1,e2,e3⟩:=hsame.sim hS.os hS.tape hS.output
  have hlt : ∀ {c o'},w.heap[c]? = some o'→c < w.heap.size:=fun h => (Array.getElem?_eq_some_iff.1 h).1
  have hlt' : ∀ {c o'},w'.heap[c]? = some o'→c < w'.heap.size:=fun h => (Array.getElem?_eq_some_iff.1 h).1
  have hfz : ∀ {c o'},G.fz c = some o'→c ≠ w.heap.size:=fun h e => by subst e; exact absurd (hlt (hS.fz _ _ h)) (by omega)
  have hsz' : ∀ {c s},G.sz c = some s→c ≠ w.heap.size:=fun h e => by subst e; exact absurd (hS.szr _ _ h) (by omega)
  have hx : Ext G (G.fzAt w.heap.size o):=⟨fun _ _ h => h,fun c o' h => by simp only [Gh.fzAt,if_neg (hfz h)]; exact h,fun c s h => by simp only [Gh.fzAt,if_neg (hsz' h)]; exact h,rfl⟩
  constructor
  · refine ⟨e1,e2,e3,by have:=hS.size; omega,?_,?_,?_,hS.inj,?_,?_,?_,?_,?_,hS.frz.ext hx rfl⟩
    · intro c hc
      have:=hS.size
      simp only [Gh.fzAt,if_neg (show c ≠ w.heap.size by omega)]; exact hS.base c hc
    · intro c o' h
      by_cases e : c = w.heap.size
      · subst e; simp only [Gh.fzAt,if_true,Option.some.injEq] at h; subst h; exact hnew
      · simp only [Gh.fzAt,if_neg e] at h
        have h':=hS.fz c o' h
        rw [hold c (hlt h')]; exact h'
    · intro b y c h1 h2
      obtain ⟨o',h4,h5⟩:=hS.live b y c h1 h2
      exact ⟨o',by rw [hold c (hlt h4)]; exact h4,h5.mono hx⟩
    · intro b y c h1 h2
      have:=hS.rng b c h2
      simp only [Gh.fzAt,if_neg (show c ≠ w.heap.size by omega)]; exact hS.nofz b y c h1 h2
    · intro b c h
      have:=hS.rng b c h; omega
    · intro c o' h1 h2
      by_cases e : c = w.heap.size
      · subst e; rw [hnew] at h2; cases h2; exact .inr (by simp [Gh.fzAt])
      · have : c < w.heap.size:=by have:=hlt' h2; rw [hsz] at this; omega
        rw [hold c this] at h2; exact (hS.plain c o' h1 h2).imp_right (hx.fz _ _)
    · intro c o' h1 h2
      by_cases e : c = w.heap.size
      · subst e; rw [hnew] at h2; cases h2; simp [Gh.fzAt]
      · have : c < w.heap.size:=by have:=hlt' h2; rw [hsz] at this; omega
        rw [hold c this] at h2
        simp only [Gh.fzAt,if_neg e]; exact hS.sz c o' h1 h2
    · intro c s h
      by_cases e : c = w.heap.size
      · subst e; omega
      · simp only [Gh.fzAt,if_neg e] at h; have:=hS.szr c s h; omega
  · refine ⟨hx,fun _ _ h => .inl h,Nat.le_refl _,by omega,fun c hc _ => hold c hc,fun _ _ h _ => h,fun b y c h1 h2 _ => ⟨b,y,h1,h2⟩,?_,fun c l h => ⟨l,by rw [hold c (hlt h)]; exact h⟩⟩
    intro c o' h1 h2
    by_cases e : c = w.heap.size
    · exact .inl (by omega)
    · simp only [Gh.fzAt,if_neg e] at h1; rw [h1] at h2; cases h2
theorem sim_at {B : World} {G : Gh} {H : AHeap} {w w' : World} {x y : Blk} {o : Obj} {b c : Nat} (hS : Sim B G H w) (hg : H.get b = some y) (hc : G.β b = some c) (hp : At w w' c o)
    (hcs : (w.heap[c]?).bind Obj.csize = Obj.csize o) (hb : BR G x o) (hpl : Obj.plain o) (hloop : ∀ l,w.heap[c]? = some (Obj.loop l)→∃ l',o = Obj.loop l') :
    Sim B G (H.put b (some x)) w'∧Step G H w G (H.put b (some x)) w':=by
  obtain ⟨hsame,hsz,hnew,hold⟩:=hp
  obtain ⟨e1,e2,e3⟩:=hsame.sim hS.os hS.tape hS.output
  have hnf:=hS.nofz b y c hg hc
  have getc : ∀ b' z,(H.put b (some x)).get b' = some z→(b' = b∧z = x) ∨ (b' ≠ b∧H.get b' = some z):=fun b' z h => by
    by_cases e : b' = b
    · subst e; rw [AHeap.get_put_self _ hg] at h; exact .inl ⟨rfl,(Option.some.inj h).symm⟩
    · rw [AHeap.get_put_ne H _ e] at h; exact .inr ⟨e,h⟩
  constructor
  · refine ⟨e1,e2,e3,by have:=hS.size; omega,hS.base,?_,?_,?_,?_,?_,?_,?_,?_,hS.frz.ext (Ext.refl G) (AHeap.fr_put H b _)⟩
    · intro c' o' h
      have hne : c' ≠ c:=fun e => by subst e; rw [hnf] at h; cases h
      rw [hold c' hne]; exact hS.fz c' o' h
    · intro b' z c' h1 h2
      rcases getc b' z h1 with ⟨rfl,rfl⟩ | ⟨hne,h3⟩
      · rw [hc] at h2; cases h2; exact ⟨o,hnew,hb⟩
      · obtain ⟨o',h4,h5⟩:=hS.live b' z c' h3 h2
        have hne' : c' ≠ c:=fun e => by subst e; exact hne (hS.inj b' b z y c' h3 hg h2 hc)
        exact ⟨o',by rw [hold c' hne']; exact h4,h5⟩
    · intro b1 b2 z1 z2 c' h1 h2 h3 h4
      rcases getc b1 z1 h1 with ⟨rfl,rfl⟩ | ⟨hne,h5⟩ <;> rcases getc b2 z2 h2 with ⟨rfl,rfl⟩ | ⟨hne',h6⟩
      · rfl
      · exact hS.inj _ _ y z2 c' hg h6 h3 h4
      · exact hS.inj _ _ z1 y c' h5 hg h3 h4
      · exact hS.inj _ _ z1 z2 c' h5 h6 h3 h4
    · intro b' z c' h1 h2
      rcases getc b' z h1 with ⟨rfl,rfl⟩ | ⟨hne,h3⟩
      · exact hS.nofz _ y c' hg h2
      · exact hS.nofz b' z c' h3 h2
    · intro b' c' h; rw [hsz]; exact hS.rng b' c' h
    · intro c' o' h1 h2
      by_cases e : c' = c
      · subst e; rw [hnew] at h2; cases h2; exact .inl hpl
      · rw [hold c' e] at h2; exact hS.plain c' o' h1 h2
    · intro c' o' h1 h2
      by_cases e : c' = c
      · subst e; rw [hnew] at h2; cases h2
        obtain ⟨oc,ho,_⟩:=hS.live b y c' hg hc
        rw [← hcs,ho]; exact hS.sz c' oc h1 ho
      · rw [hold c' e] at h2; exact hS.sz c' o' h1 h2
    · intro c' s h; rw [hsz]; exact hS.szr c' s h
  · refine ⟨Ext.refl G,fun _ _ h => .inl h,by simp,by omega,?_,?_,?_,fun c' o' h1 h2 => (by rw [h2] at h1; cases h1),?_⟩
    · intro c' hc' hno
      have hne : c' ≠ c:=fun e => by subst e; exact hno b y hg hc
      exact hold c' hne
    · intro b' z h1 h2
      have hne : b' ≠ b:=fun e => by subst e; rw [hc] at h2; cases h2
      rw [AHeap.get_put_ne H _ hne]; exact h1
    · intro b' z c' h1 h2 h3
      rcases getc b' z h1 with ⟨rfl,rfl⟩ | ⟨hne,h4⟩
      · exact ⟨_,y,hg,h2⟩
      · exact ⟨b',z,h4,h2⟩
    · intro c' l h
      by_cases e : c' = c
      · subst e
        obtain ⟨l',rfl⟩:=hloop l h
        exact ⟨l',hnew⟩
      · exact ⟨l,by rw [hold c' e]; exact h⟩
theorem sim_drop {B : World} {G : Gh} {H : AHeap} {w : World} {y : Blk} {b : Nat} (hS : Sim B G H w) (hg : H.get b = some y) : Sim B G (H.put b none) w:=by
  have getc : ∀ b' z,(H.put b none).get b' = some z→H.get b' = some z:=fun b' z h => by
    by_cases e : b' = b
    · subst e; rw [AHeap.get_put_self _ hg] at h; cases h
    · rw [AHeap.get_put_ne H _ e] at h; exact h
  exact ⟨hS.os,hS.tape,hS.output,hS.size,hS.base,hS.fz,fun b' z c h1 h2 => hS.live b' z c (getc b' z h1) h2,
    fun b1 b2 z1 z2 c h1 h2 h3 h4 => hS.inj b1 b2 z1 z2 c (getc _ _ h1) (getc _ _ h2) h3 h4,fun b' z c h1 h2 => hS.nofz b' z c (getc _ _ h1) h2,hS.rng,hS.plain,hS.sz,hS.szr,hS.frz.ext (Ext.refl G) (AHeap.fr_put H b _)⟩
theorem step_drop {G : Gh} {H : AHeap} {w : World} {y : Blk} {b c : Nat} (hg : H.get b = some y) (hc : G.β b = some c) : Step G H w G (H.put b none) w:=by
  refine ⟨Ext.refl G,fun _ _ h => .inl h,by simp,Nat.le_refl _,fun _ _ _ => rfl,?_,?_,fun c' o' h1 h2 => (by rw [h2] at h1; cases h1),fun c l h => ⟨l,h⟩⟩
  · intro b' z h1 h2
    have hne : b' ≠ b:=fun e => by subst e; rw [hc] at h2; cases h2
    rw [AHeap.get_put_ne H _ hne]; exact h1
  · intro b' z c' h1 h2 h3
    by_cases e : b' = b
    · subst e; exact ⟨_,y,hg,h2⟩
    · rw [AHeap.get_put_ne H _ e] at h1; exact ⟨b',z,h1,h2⟩
theorem sim_rename {B : World} {G : Gh} {H : AHeap} {w w' : World} {x y : Blk} {o : Obj} {b c : Nat} (hS : Sim B G H w) (hg : H.get b = some y) (hc : G.β b = some c) (hp : At w w' c o)
    (hcs : (w.heap[c]?).bind Obj.csize = Obj.csize o) (hb : BR G x o) (hpl : Obj.plain o) (hloop : ∀ l,w.heap[c]? = some (Obj.loop l)→∃ l',o = Obj.loop l') (hn : G.β H.next = none) :
    Sim B (G.at H.next c (Obj.csize o)) ((H.put b none).alloc x) w'∧Step G H w (G.at H.next c (Obj.csize o)) ((H.put b none).alloc x) w':=by
  obtain ⟨oc,hoc,_⟩:=hS.live b y c hg hc
  have hge:=own_block hS hg hc
  have hszc : G.sz c = Obj.csize o:=by rw [hS.sz c oc hge hoc,← hcs,hoc]; rfl
  have hx : Ext G (G.at H.next c (Obj.csize o)):=Gh.ext_at hn (.inr hszc)
  have hszeq : ∀ c',(G.at H.next c (Obj.csize o)).sz c' = G.sz c':=fun c' => by
    simp only [Gh.at]; split
    · rename_i e; subst e; exact hszc.symm
    · rfl
  obtain ⟨hsame,hsz,hnew,hold⟩:=hp
  obtain ⟨e1,e2,e3⟩:=hsame.sim hS.os hS.tape hS.output
  have hnf:=hS.nofz b y c hg hc
  have hbn : b ≠ H.next:=fun e => by have:=AHeap.get_lt hg; omega
  have hβ : ∀ b',b' ≠ H.next→(G.at H.next c (Obj.csize o)).β b' = G.β b':=fun b' hb => by simp [Gh.at,hb]
  have hβ' : (G.at H.next c (Obj.csize o)).β H.next = some c:=by simp [Gh.at]
  have getc : ∀ b' z,((H.put b none).alloc x).get b' = some z→(b' = H.next∧z = x) ∨ (b' ≠ H.next∧b' ≠ b∧H.get b' = some z):=fun b' z h => by
    by_cases e : b' = H.next
    · subst e
      have : (H.put b none).next = H.next:=AHeap.next_put H b none
      rw [← this,AHeap.get_alloc_self] at h; exact .inl ⟨rfl,(Option.some.inj h).symm⟩
    · rw [AHeap.get_alloc_ne _ x (by simpa using e)] at h
      by_cases e' : b' = b
      · subst e'; rw [AHeap.get_put_self _ hg] at h; cases h
      · rw [AHeap.get_put_ne H _ e'] at h; exact .inr ⟨e,e',h⟩
  constructor
  · refine ⟨e1,e2,e3,by have:=hS.size; omega,hS.base,?_,?_,?_,?_,?_,?_,?_,?_,hS.frz.ext hx (AHeap.fr_put H b _)⟩
    · intro c' o' h
      have hne : c' ≠ c:=fun e => by subst e; simp only [Gh.at] at h; rw [hnf] at h; cases h
      rw [hold c' hne]; exact hS.fz c' o' h
    · intro b' z c' h1 h2
      rcases getc b' z h1 with ⟨rfl,rfl⟩ | ⟨hne,hne2,h3⟩
      · rw [hβ'] at h2; cases h2; exact ⟨o,hnew,hb.mono hx⟩
      · rw [hβ b' hne] at h2
        obtain ⟨o',h4,h5⟩:=hS.live b' z c' h3 h2
        have hne' : c' ≠ c:=fun e => by subst e; exact hne2 (hS.inj b' b z y c' h3 hg h2 hc)
        exact ⟨o',by rw [hold c' hne']; exact h4,h5.mono hx⟩
    · intro b1 b2 z1 z2 c' h1 h2 h3 h4
      rcases getc b1 z1 h1 with ⟨rfl,rfl⟩ | ⟨hne,hne2,h5⟩ <;> rcases getc b2 z2 h2 with ⟨rfl,rfl⟩ | ⟨hne',hne2',h6⟩
      · rfl
      · rw [hβ'] at h3; cases h3; rw [hβ b2 hne'] at h4
        exact absurd (hS.inj b2 b z2 y _ h6 hg h4 hc) hne2'
      · rw [hβ'] at h4; cases h4; rw [hβ b1 hne] at h3
        exact absurd (hS.inj b1 b z1 y _ h5 hg h3 hc) hne2
      · rw [hβ b1 hne] at h3; rw [hβ b2 hne'] at h4
        exact hS.inj _ _ z1 z2 c' h5 h6 h3 h4
    · intro b' z c' h1 h2
      rcases getc b' z h1 with ⟨rfl,rfl⟩ | ⟨hne,hne2,h3⟩
      · rw [hβ'] at h2; cases h2; exact hnf
      · rw [hβ b' hne] at h2; exact hS.nofz b' z c' h3 h2
    · intro b' c' h
      by_cases e : b' = H.next
      · subst e; rw [hβ'] at h; cases h; rw [hsz]; exact hS.rng _ _ hc
      · rw [hβ b' e] at h; rw [hsz]; exact hS.rng b' c' h
    · intro c' o' h1 h2
      by_cases e : c' = c
      · subst e; rw [hnew] at h2; cases h2; exact .inl hpl
      · rw [hold c' e] at h2; exact hS.plain c' o' h1 h2
    · intro c' o' h1 h2
      rw [hszeq]
      by_cases e : c' = c
      · subst e; rw [hnew] at h2; cases h2; exact hszc
      · rw [hold c' e] at h2; exact hS.sz c' o' h1 h2
    · intro c' s h; rw [hszeq] at h; rw [hsz]; exact hS.szr c' s h
  · refine ⟨hx,?_,by simp,by omega,?_,?_,?_,fun c' o' h1 h2 => (by simp only [Gh.at] at h1; rw [h1] at h2; cases h2),?_⟩
    · intro b' c' h
      by_cases e : b' = H.next
      · exact .inr ⟨by omega,by simp; omega⟩
      · rw [hβ b' e] at h; exact .inl h
    · intro c' hc' hno
      have hne : c' ≠ c:=fun e => by subst e; exact hno b y hg hc
      exact hold c' hne
    · intro b' z h1 h2
      have hne : b' ≠ b:=fun e => by subst e; rw [hc] at h2; cases h2
      have hne' : b' ≠ H.next:=fun e => by have:=AHeap.get_lt h1; omega
      rw [AHeap.get_alloc_ne _ x (by simpa using hne'),AHeap.get_put_ne H _ hne]; exact h1
    · intro b' z c' h1 h2 h3
      rcases getc b' z h1 with ⟨rfl,rfl⟩ | ⟨hne,hne2,h4⟩
      · rw [hβ'] at h2; cases h2; exact ⟨b,y,hg,hc⟩
      · rw [hβ b' hne] at h2; exact ⟨b',z,h4,h2⟩
    · intro c' l h
      by_cases e : c' = c
      · subst e
        obtain ⟨l',rfl⟩:=hloop l h
        exact ⟨l',hnew⟩
      · exact ⟨l,by rw [hold c' e]; exact h⟩
end Go.Hem
