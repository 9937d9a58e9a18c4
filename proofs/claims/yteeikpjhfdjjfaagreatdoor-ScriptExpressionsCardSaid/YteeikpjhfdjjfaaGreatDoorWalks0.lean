/- Walks. -/
import Derived.Test.YteeikpjhfdjjfaaGreatDoorHemB
import Derived.Test.YteeikpjhfdjjfaaGreatDoorK55m
import Derived.Test.YteeikpjhfdjjfaaGreatDoorHemTab
import Derived.Test.YteeikpjhfdjjfaaGreatDoorHemBun
import Derived.Test.YteeikpjhfdjjfaaGreatDoorHemOw
import Derived.Lib.Atoi
import Derived.Lib.Bytealg
import Derived.Test.YteeikpjhfdjjfaaGreatDoorHemMemo
set_option linter.unusedVariables false
set_option linter.unusedSimpArgs false
namespace Go.Hem
def isLetter (c : UInt8) : Bool:=(97 ≤ c.toNat && c.toNat ≤ 122) || (65 ≤ c.toNat && c.toNat ≤ 90)
def isDigit (c : UInt8) : Bool:=48 ≤ c.toNat && c.toNat ≤ 57
def isInW (c : UInt8) : Bool:=isLetter c || isDigit c || c.toNat == 95
def symBytes : List UInt8:=[33,35,36,38,39,40,41,42,43,44,45,46,47,58,59,60,61,62,63,64,91,92,93,94,95,123,124,125,126]
structure Pc where
  sp : Nat
  k : Nat
  tx : List UInt8
def Pc.bytes (p : Pc) : List UInt8:=List.replicate p.sp 32 ++ p.tx
def textOf (l : List Pc) : List UInt8:=l.flatMap Pc.bytes
def numVal (l : List UInt8) : Nat:=l.foldl (fun a c => a * 10 + (c.toNat - 48)) 0
def Pc.ok (p : Pc) (next : Option UInt8) : Bool :=
  if p.k = 1 then (match p.tx with | c :: r => isLetter c && r.all isInW && decide (r.length < 64) | [] => false) && (match next with | some d => !isInW d | none => true)
  else if p.k = 2 then (match p.tx with | c :: r => (c :: r).all isDigit && decide (r.length < 15) | [] => false) && (match next with | some d => !isDigit d | none => true)
  else if p.k = 4 then (match p.tx with | [c] => symBytes.contains c | _ => false)
  else false
def pcsOk : List Pc→Bool
  | [] => true
  | p :: l => p.ok (textOf l).head? && pcsOk l
def ba (l : List UInt8) : ByteArray:=⟨l.toArray⟩
def tokC (k : Nat) (tx : List UInt8) (v : Nat) (col : Nat) (j : Bool) : List AV :=
  [.sc (.int .i64 (k : Int)),.sc (.str (ba tx)),.sc (.int .i64 (v : Int)),.sc (.str ⟨#[]⟩),.sc (.int .i64 1),.sc (.int .i64 (col : Int)),.sc (.bool j)]
def Pc.tok (p : Pc) (off : Nat) (first : Bool) : List AV:=tokC p.k p.tx (if p.k = 2 then numVal p.tx else 0) (off + p.sp + 1) (decide (p.sp = 0) && !first)
def toksFrom (off : Nat) (first : Bool) : List Pc→List (List AV)
  | [] => [tokC 0 [] 0 (off + 1) (!first)]
  | p :: l => p.tok off first :: toksFrom (off + p.bytes.length) false l
theorem toksFrom_length : ∀ (l : List Pc) (off : Nat) (f : Bool),(toksFrom off f l).length = l.length + 1
  | [],_,_ => rfl
  | p :: l,_,_ => by simp [toksFrom,toksFrom_length l]
end Go.Hem
set_option maxRecDepth 10000
set_option maxHeartbeats 4000000
namespace Go.Hem
def isBlank (c : UInt8) : Bool:=c.toNat == 32 || c.toNat == 9 || c.toNat == 10 || c.toNat == 13
theorem letter_pv (c : UInt8) : Pv prog polW 105 [.sc (.int .u8 ((c.toNat : Nat) : Int))] (.sc (.bool (isLetter c))):=by
  refine Pv_of' ok105 rfl ?_
  generalize hr : isLetter c = r
  unfold isLetter at hr
  generalize c.toNat = n at *
  by_cases c1 : (97 : Int) ≤ (n : Int) <;> by_cases c2 : (n : Int) ≤ 122 <;> by_cases c3 : (65 : Int) ≤ (n : Int) <;> by_cases c4 : (n : Int) ≤ 90 <;>
    first
    | omega
    | (have d1 : (97 ≤ n) = ((97 : Int) ≤ (n : Int)):=by rw [eq_iff_iff]; omega
       have d2 : (n ≤ 122) = ((n : Int) ≤ 122):=by rw [eq_iff_iff]; omega
       have d3 : (65 ≤ n) = ((65 : Int) ≤ (n : Int)):=by rw [eq_iff_iff]; omega
       have d4 : (n ≤ 90) = ((n : Int) ≤ 90):=by rw [eq_iff_iff]; omega
       simp only [d1,d2,d3,d4,c1,c2,c3,c4,decide_true,decide_false,Bool.and_self,Bool.or_self,Bool.and_true,Bool.and_false,Bool.false_and,Bool.or_false,Bool.false_or,Bool.true_or,Bool.or_true] at hr
       subst hr
       simp -implicitDefEqProofs (maxDischargeDepth:=12) only [wpF,cf105,WZ,seval,ge_iff_le,c1,c2,c3,c4]
       exact frz_sc)
theorem digit_pv (c : UInt8) : Pv prog polW 108 [.sc (.int .u8 ((c.toNat : Nat) : Int))] (.sc (.bool (isDigit c))):=by
  refine Pv_of' ok108 rfl ?_
  generalize hr : isDigit c = r
  unfold isDigit at hr
  generalize c.toNat = n at *
  by_cases c1 : (48 : Int) ≤ (n : Int) <;> by_cases c2 : (n : Int) ≤ 57 <;>
    (have d1 : (48 ≤ n) = ((48 : Int) ≤ (n : Int)):=by rw [eq_iff_iff]; omega
     have d2 : (n ≤ 57) = ((n : Int) ≤ 57):=by rw [eq_iff_iff]; omega
     simp only [d1,d2,c1,c2,decide_true,decide_false,Bool.and_self,Bool.and_true,Bool.and_false,Bool.false_and] at hr
     subst hr
     simp -implicitDefEqProofs (maxDischargeDepth:=12) only [wpF,cf108,WZ,seval,ge_iff_le,c1,c2]
     exact frz_sc)
theorem blank_pv (c : UInt8) : Pv prog polW 117 [.sc (.int .u8 ((c.toNat : Nat) : Int))] (.sc (.bool (isBlank c))):=by
  refine Pv_of' ok117 rfl ?_
  generalize hr : isBlank c = r
  unfold isBlank at hr
  generalize c.toNat = n at *
  have e : ∀ k : Nat,(n == k) = decide ((n : Int) = (k : Int)):=fun k => by
    rw [Bool.eq_iff_iff,beq_iff_eq,decide_eq_true_iff]; omega
  rw [e,e,e,e] at hr
  by_cases c1 : (n : Int) = ((32 : Nat) : Int) <;> by_cases c2 : (n : Int) = ((9 : Nat) : Int) <;> by_cases c3 : (n : Int) = ((10 : Nat) : Int) <;> by_cases c4 : (n : Int) = ((13 : Nat) : Int) <;>
    first
    | omega
    | (simp only [c1,c2,c3,c4,decide_true,decide_false,Bool.or_self,Bool.or_false,Bool.false_or,Bool.true_or,Bool.or_true] at hr
       subst hr
       simp only [Int.cast_ofNat_Int] at c1 c2 c3 c4
       simp -implicitDefEqProofs (maxDischargeDepth:=12) only [wpF,cf117,WZ,seval,c1,c2,c3,c4,Int.cast_ofNat_Int]
       exact frz_sc)
theorem inWord_pv (c : UInt8) : Pv prog polW 107 [.sc (.int .u8 ((c.toNat : Nat) : Int))] (.sc (.bool (isInW c))):=by
  refine Pv_of' ok107 rfl ?_
  generalize hr : isInW c = r
  unfold isInW at hr
  have e : (c.toNat == 95) = decide (((c.toNat : Nat) : Int) = 95):=by rw [Bool.eq_iff_iff,beq_iff_eq,decide_eq_true_iff]; omega
  rw [e] at hr
  simp -implicitDefEqProofs (maxDischargeDepth:=12) only [wpF,cf107,WZ,seval]
  refine wA_pure rfl (letter_pv c) ?_
  cases h1 : isLetter c
  · simp -implicitDefEqProofs (maxDischargeDepth:=12) only [WZ,seval]
    refine wA_pure rfl (digit_pv c) ?_
    rw [h1] at hr
    cases h2 : isDigit c <;> by_cases c1 : ((c.toNat : Nat) : Int) = 95 <;>
      (rw [h2] at hr
       simp only [c1,decide_true,decide_false,Bool.or_self,Bool.or_false,Bool.false_or,Bool.true_or,Bool.or_true] at hr
       subst hr
       simp -implicitDefEqProofs (maxDischargeDepth:=12) only [WZ,seval,c1]
       exact frz_sc)
  · rw [h1] at hr
    simp only [Bool.true_or] at hr
    subst hr
    simp -implicitDefEqProofs (maxDischargeDepth:=12) only [WZ,seval]
    exact frz_sc
end Go.Hem
namespace Go.Hem
theorem wrap1 {i n : Nat} (h : i < n) (hn : n < 2 ^ 31) : IntKind.i64.wrap ((i : Int) + 1) = ((i + 1 : Nat) : Int):=by rw [w64 (by omega) (by omega)]; omega
theorem run_ev (g : FuncId) (p : UInt8→Bool) (hg : ∀ args,acallee prog g args = some (.call g args)) (hp : polW.pure g = true) (hv : ∀ c : UInt8,Pv prog polW g [.sc (.int .u8 ((c.toNat : Nat) : Int))] (.sc (.bool (p c))))
    (s : ByteArray) (hs : s.size < 2 ^ 31) (bx : Nat) (r : List AV) (i0 e : Nat) (hle : i0 ≤ e) (he : e ≤ s.size)
    (hall : ∀ i : Nat,i0 ≤ i→i < e→∃ c : UInt8,s[i]? = some c∧p c = true) (hend : ∀ c : UInt8,s[e]? = some c→p c = false) (H : AHeap) (hb : H.cells bx = some (.sc (.str s) :: r)) :
    Ev prog polW (.call 106 [.ptr bx 0,.sc (.int .i64 (i0 : Int)),.func (.func g) [] []]) H fun o H' => ∃ v,o = .val v∧v = .sc (.int .i64 (e : Int))∧H' = H:=by
  refine wpF_ok ok106 ?_
  simp -implicitDefEqProofs (maxDischargeDepth:=12) only [wpF,cf106,WZ,seval]
  refine wp_loop (Inv:=fun k t H' => H' = H∧∃ i : Nat,i0 ≤ i∧i + k = e∧∃ x : Nat→AV,t = [.ptr bx 0,.sc (.int .i64 (i : Int)),.func (.func g) [] [],x 3,x 4,x 5,x 6,x 7,x 8,x 9,x 10,x 11,x 12,x 13,x 14,x 15,x 16,x 17,x 18,x 19,x 20,x 21,x 22,x 23,x 24,x 25,x 26]) (k:=e - i0) ?_ ⟨rfl,i0,Nat.le_refl _,by omega,ex_x rfl⟩
  rintro k t H' ⟨rfl,i,hi,hk,x,rfl⟩
  by_cases c0 : i < e
  · obtain ⟨c,hc,hpc⟩:=hall i hi c0
    have c1 : (i : Int) < (s.size : Int):=by omega
    simp -implicitDefEqProofs (maxDischargeDepth:=12) only [WZ,seval,hb,c1,e_strAt,hc,e_callf,hg]
    refine wA_pure hp (hv c) ?_
    simp -implicitDefEqProofs (maxDischargeDepth:=12) only [WZ,seval,hpc,wrap1 c0 (show e < 2 ^ 31 by omega)]
    exact ⟨k - 1,by omega,i + 1,by omega,by omega,ex_x rfl⟩
  · obtain rfl : i = e:=by omega
    cases hc : s[i]? with
    | none =>
      have c1 : ¬ (i : Int) < (s.size : Int):=by
        intro h
        have : i < s.size:=by omega
        have hq : s[i]? = some s[i]:=getElem?_pos s i this
        rw [hq] at hc; cases hc
      simp -implicitDefEqProofs (maxDischargeDepth:=12) only [WZ,seval,hb,c1]
    | some c =>
      have c1 : (i : Int) < (s.size : Int):=by
        have : i < s.size:=by
          apply Classical.byContradiction; intro h
          have hq : s[i]? = none:=getElem?_neg s i h
          rw [hq] at hc; cases hc
        omega
      simp -implicitDefEqProofs (maxDischargeDepth:=12) only [WZ,seval,hb,c1,e_strAt,hc,e_callf,hg]
      refine wA_pure hp (hv c) ?_
      simp -implicitDefEqProofs (maxDischargeDepth:=12) only [WZ,seval,hend c hc]
end Go.Hem
namespace Go.Hem
structure Only (bs : List Nat) (H H' : AHeap) : Prop where
  next : H.next ≤ H'.next
  get : ∀ b,b < H.next→b ∉ bs→H'.get b = H.get b
theorem Only.cells {bs : List Nat} {H H' : AHeap} (h : Only bs H H') (b : Nat) (hb : b < H.next) (hn : b ∉ bs) : H'.cells b = H.cells b:=by
  unfold AHeap.cells; rw [h.get b hb hn]
theorem Only.map {bs : List Nat} {H H' : AHeap} (h : Only bs H H') (b : Nat) (hb : b < H.next) (hn : b ∉ bs) : H'.map b = H.map b:=by
  unfold AHeap.map; rw [h.get b hb hn]
theorem Only.refl {bs : List Nat} {H : AHeap} : Only bs H H:=⟨Nat.le_refl _,fun _ _ _ => rfl⟩
theorem Only.trans {bs : List Nat} {H H1 H2 : AHeap} (h : Only bs H H1) (k : Only bs H1 H2) : Only bs H H2 :=
  ⟨Nat.le_trans h.next k.next,fun b hb hn => by rw [k.get b (Nat.lt_of_lt_of_le hb h.next) hn,h.get b hb hn]⟩
theorem Only.put {bs : List Nat} {H H' : AHeap} {b : Nat} {x : Option Blk} (h : Only bs H H') (hb : b ∈ bs ∨ H.next ≤ b) : Only bs H (H'.put b x) :=
  ⟨by simpa using h.next,fun c hc hn => by
    have e : c ≠ b:=by rintro rfl; rcases hb with hb | hb; exact hn hb; omega
    rw [← h.get c hc hn,AHeap.get_put_ne H' x e]⟩
theorem Only.alloc {bs : List Nat} {H H' : AHeap} {x : Blk} (h : Only bs H H') : Only bs H (H'.alloc x) :=
  ⟨by simpa using Nat.le_succ_of_le h.next,fun c hc hn => by
    rw [← h.get c hc hn,AHeap.get_alloc_lt H' x (Nat.lt_of_lt_of_le hc h.next)]⟩
theorem Only.then {bs cs : List Nat} {H0 H1 H2 : AHeap} (h : Only bs H0 H1) (k : Only cs H1 H2) (hc : ∀ b ∈ cs,b ∈ bs ∨ H0.next ≤ b) : Only bs H0 H2 :=
  ⟨Nat.le_trans h.next k.next,fun b hb hn => by
    rw [k.get b (Nat.lt_of_lt_of_le hb h.next) (fun hm => by rcases hc b hm with e | e; exact hn e; omega),h.get b hb hn]⟩
theorem Only.mono {bs cs : List Nat} {H H' : AHeap} (h : Only cs H H') (hc : ∀ b ∈ cs,b ∈ bs) : Only bs H H':=⟨h.next,fun b hb hn => h.get b hb fun hm => hn (hc b hm)⟩
theorem cells_lt {H : AHeap} {b : Nat} {cs : List AV} (h : H.cells b = some cs) : b < H.next:=AHeap.get_lt (cells_get' h)
def scC (s : ByteArray) (a : Nat) (L T W : AV) : List AV:=[.sc (.str s),.sc (.int .i64 (a : Int)),L,T,.sc (.int .i64 0),W]
theorem skip_ev (s : ByteArray) (hs : s.size < 2 ^ 31) (bx : Nat) (L T W : AV) (hL : AV.one L = true) (hT : AV.one T = true) (hW : AV.one W = true) (a b : Nat) (hab : a ≤ b) (hb : b ≤ s.size) (hsp : ∀ i : Nat,a ≤ i→i < b→s[i]? = some (32 : UInt8))
    (hnx : ∀ c : UInt8,s[b]? = some c→isBlank c = false∧¬ ((c.toNat : Nat) : Int) = 37) (H : AHeap) (hx : H.cells bx = some (scC s a L T W)) :
    Ev prog polW (.call 52 [.ptr bx 0]) H fun o H' => ∃ v,o = .val v∧v = .sc (.bool (decide (a < b)))∧H'.cells bx = some (scC s b L T W)∧Only [bx] H H'∧H'.next = H.next:=by
  refine wpF_ok ok52 ?_
  unfold scC at hx ⊢
  simp -implicitDefEqProofs (maxDischargeDepth:=12) only [wpF,cf52,WZ,seval,hx]
  refine wp_loop (Inv:=fun k t H' => ∃ i : Nat,a ≤ i∧i + k = b∧H'.cells bx = some [.sc (.str s),.sc (.int .i64 (i : Int)),L,T,.sc (.int .i64 0),W]∧Only [bx] H H'∧H'.next = H.next∧∃ x : Nat→AV,t = [.ptr bx 0,x 1,x 2,.sc (.int .i64 (a : Int)),x 4,x 5,x 6,x 7,x 8,x 9,x 10,x 11,x 12,x 13,x 14,x 15,x 16,x 17,x 18,x 19,x 20,x 21,x 22,x 23,x 24,x 25,x 26,x 27,x 28,x 29,x 30,x 31,x 32,x 33,x 34,x 35,x 36,x 37,x 38,x 39,x 40,x 41,x 42,x 43,x 44,x 45,x 46,x 47,x 48,x 49,x 50,x 51,x 52,x 53,x 54,x 55]) (k:=b - a) ?_ ⟨a,Nat.le_refl _,by omega,hx,Only.refl,rfl,ex_x rfl⟩
  rintro k t H' ⟨i,hi,hk,hc,ho,hn,x,rfl⟩
  by_cases c0 : i < b
  · have h1:=hsp i hi c0
    have c1 : (i : Int) < (s.size : Int):=by omega
    simp -implicitDefEqProofs (maxDischargeDepth:=12) only [WZ,seval,hc,c1,e_strAt,h1,show ¬ (((32 : UInt8).toNat : Nat) : Int) = 37 by decide]
    refine wA_pure rfl (blank_pv 32) ?_
    simp -implicitDefEqProofs (maxDischargeDepth:=12) only [WZ,seval,hc,show isBlank 32 = true by decide,wrap1 c0 (show b < 2 ^ 31 by omega)]
    refine ⟨k - 1,by omega,i + 1,by omega,by omega,?_,ho.put (.inl (by simp)),by simpa using hn,ex_x rfl⟩
    simp -implicitDefEqProofs (maxDischargeDepth:=12) only [WZ,seval]
  · obtain rfl : i = b:=by omega
    have c5 : ((a : Int) < (i : Int)) = (a < i):=by rw [eq_iff_iff]; omega
    cases h1 : s[i]? with
    | none =>
      have c1 : ¬ (i : Int) < (s.size : Int):=by
        intro h
        have : i < s.size:=by omega
        have hq : s[i]? = some s[i]:=getElem?_pos s i this
        rw [hq] at h1; cases h1
      simp -implicitDefEqProofs (maxDischargeDepth:=12) only [WZ,seval,hc,c1,c5]
      exact ⟨ho,hn⟩
    | some c =>
      have c1 : (i : Int) < (s.size : Int):=by
        have : i < s.size:=by
          apply Classical.byContradiction; intro h
          have hq : s[i]? = none:=getElem?_neg s i h
          rw [hq] at h1; cases h1
        omega
      obtain ⟨h2,h3⟩:=hnx c h1
      simp -implicitDefEqProofs (maxDischargeDepth:=12) only [WZ,seval,hc,c1,e_strAt,h1,h3]
      refine wA_pure rfl (blank_pv c) ?_
      simp -implicitDefEqProofs (maxDischargeDepth:=12) only [WZ,seval,h2,hc,c5]
      exact ⟨ho,hn⟩
end Go.Hem
namespace Go.Hem
theorem s_shft' {P : Program} {t : List AV} {H : AHeap} {op : BinOp} {x y : Operand} : csem P t H (.shft op x y) = (shiftOf op (aev t x) (aev t y)).map .val:=rfl
theorem cNaN_pv (n : Int) : Pv prog polW 207 [.sc (.int .i64 n)] (.sc (.bool false)):=by
  refine Pv_of' ok207 rfl ?_
  simp -implicitDefEqProofs (maxDischargeDepth:=12) only [wpF,cf207,WZ,seval]
  exact frz_sc
theorem less_pv (n m : Int) : Pv prog polW 119 [.sc (.int .i64 n),.sc (.int .i64 m)] (.sc (.bool (decide (n < m)))):=by
  refine Pv_of' ok119 rfl ?_
  simp -implicitDefEqProofs (maxDischargeDepth:=12) only [wpF,cf119,WZ,seval]
  refine wA_pure rfl (cNaN_pv n) ?_
  simp -implicitDefEqProofs (maxDischargeDepth:=12) only [WZ,seval]
  by_cases c1 : n < m <;> (simp -implicitDefEqProofs (maxDischargeDepth:=12) only [WZ,seval,c1]; exact frz_sc)
def thenI (body : List AV→AHeap→Post→Prop) (n : Nat) (Q : Post) : Post:=fun e t' H' =>
  match e with
  | .normal => wpIter body n t' H' Q
  | .exit id => Q (.exit id) t' H'
  | .ret => Q .ret t' H'
section
variable {P : Program} {pol : Pol} {b : CC} {body : List AV→AHeap→Post→Prop} {n : Nat} {Q : Post} {t : List AV} {H : AHeap}
theorem wp_unroll (n : Nat) (h : wpC P pol b t H (thenI (wpC P pol b) n Q)) : wpC P pol (.loop b) t H Q:=⟨n + 1,h⟩
theorem wpI_succ (h : body t H (thenI body n Q)) : wpIter body (n + 1) t H Q:=h
theorem tI_normal : thenI body n Q .normal t H = wpIter body n t H Q:=rfl
theorem tI_exit {id : Nat} : thenI body n Q (.exit id) t H = Q (.exit id) t H:=rfl
theorem tI_ret : thenI body n Q .ret t H = Q .ret t H:=rfl
end
theorem WI : type_of% (And.intro @tI_normal <| And.intro @tI_exit <| And.intro @tI_ret WZ):=(And.intro @tI_normal <| And.intro @tI_exit <| And.intro @tI_ret WZ)
theorem bs_ev (a BL : Nat) (ha : a < 2 ^ 31) (H : AHeap) (hb : H.cells BL = some [.sc (.int .i64 0)]) :
    Ev prog polW (.call 57 [.slice BL 0 1 1 1,.sc (.int .i64 (a : Int))]) H fun o H' => ∃ v,o = .val v∧v = .tup [.sc (.int .i64 (if a = 0 then 0 else 1)),.sc (.bool (decide (a = 0)))]∧H' = H:=by
  refine wpF_ok ok57 ?_
  simp -implicitDefEqProofs (maxDischargeDepth:=12) only [wpF,cf57,WZ,seval]
  have hs : shiftOf .shr (.sc (.int .u64 1)) (.sc (.int .u64 1)) = some (.sc (.int .u64 0)):=rfl
  have w0 : IntKind.i64.wrap 0 = 0:=by decide
  have w1 : IntKind.i64.wrap 1 = 1:=by decide
  have u1 : IntKind.u64.wrap 1 = 1:=by decide
  refine wp_unroll 2 ?_
  simp -implicitDefEqProofs (maxDischargeDepth:=12) only [WZ,seval,s_shft',hs,w0,w1,u1,hb]
  refine wA_pure rfl (less_pv _ _) ?_
  by_cases c1 : a = 0
  · subst c1
    simp -implicitDefEqProofs (maxDischargeDepth:=12) only [tI_normal,WZ,seval,hb,w0]
    refine wpI_succ ?_
    simp -implicitDefEqProofs (maxDischargeDepth:=12) only [WI,seval,hb,w0]
  · have c2 : (0 : Int) < (a : Int):=by omega
    simp -implicitDefEqProofs (maxDischargeDepth:=12) only [tI_normal,WZ,seval,hb,c1,c2,w0,w1]
    refine wpI_succ ?_
    simp -implicitDefEqProofs (maxDischargeDepth:=12) only [WI,seval,hb,c1,c2,w0,w1]
end Go.Hem
namespace Go.Hem
theorem place_ev (s : ByteArray) (bx BL a : Nat) (ha : a < 2 ^ 31) (q : Int) (T W : AV) (H : AHeap) (hx : H.cells bx = some [.sc (.str s),.sc (.int .i64 q),.slice BL 0 1 1 1,T,.sc (.int .i64 0),W]) (hb : H.cells BL = some [.sc (.int .i64 0)]) :
    Ev prog polW (.call 22 [.ptr bx 0,.sc (.int .i64 (a : Int))]) H fun o H' => ∃ v,o = .val v∧v = .tup [.sc (.int .i64 1),.sc (.int .i64 ((a + 1 : Nat) : Int))]∧H' = H:=by
  refine wpF_ok ok22 ?_
  have w0 : IntKind.i64.wrap 0 = 0:=by decide
  have w1 : IntKind.i64.wrap 1 = 1:=by decide
  have wa : IntKind.i64.wrap (a : Int) = (a : Int):=by rw [w64 (by omega) (by omega)]
  have wb : IntKind.i64.wrap ((a : Int) + 1) = ((a + 1 : Nat) : Int):=by rw [w64 (by omega) (by omega)]; omega
  simp -implicitDefEqProofs (maxDischargeDepth:=12) only [wpF,cf22,WZ,seval,hx]
  refine wA_call rfl ((bs_ev a BL ha H hb).mono ?_)
  rintro o H1 ⟨v,rfl,rfl,rfl⟩
  refine ⟨_,rfl,fun c hc => by simp at hc,?_⟩
  by_cases c1 : a = 0
  · subst c1
    simp -implicitDefEqProofs (maxDischargeDepth:=12) only [WZ,seval,hx,hb,w0,w1,Int.cast_ofNat_Int]
  · simp -implicitDefEqProofs (maxDischargeDepth:=12) only [WZ,seval,hx,hb,c1,w0,w1,wa,wb,Int.sub_zero]
def TokIs (H : AHeap) (T : AV) (l : List (List AV)) : Prop :=
  (∀ x ∈ l,x.length = 7∧AV.ones x = true)∧((l = []∧T = .sc .nils) ∨ (l ≠ []∧∃ B,T = .slice B 0 l.length l.length 7∧H.cells B = some l.flatten))
def fpS : AV→List Nat
  | .slice b _ _ _ _ => [b]
  | _ => []
theorem flat7 {l : List (List AV)} (h : ∀ x ∈ l,x.length = 7∧AV.ones x = true) : l.flatten.length = l.length * 7:=by
  induction l with
  | nil => rfl
  | cons a l ih => rw [List.flatten_cons,List.length_append,(h a (.head _)).1,ih fun x hx => h x (.tail _ hx),List.length_cons]; omega
def tokN (k : Int) (tx : ByteArray) (v : Int) (by_ : ByteArray) (col : Nat) (j : Bool) : List AV :=
  [.sc (.int .i64 k),.sc (.str tx),.sc (.int .i64 v),.sc (.str by_),.sc (.int .i64 1),.sc (.int .i64 (col : Int)),.sc (.bool j)]
theorem e_ru {H : AHeap} : read1 H (.sc .undef) = none:=rfl
theorem app_nil {H : AHeap} {b' : Nat} {xs : List AV} (h : H.cells b' = some xs) (hl : xs.length = 7) : appTo 7 72 H (.sc .nils) (.slice b' 0 1 1 7) = some (.new (.cells xs) fun b => .slice b 0 1 1 7):=by
  have e : asrc 7 H (.slice b' 0 1 1 7) 1 = some xs:=by
    simp [asrc,AHeap.rd,h,cutN,hl,List.take_of_length_le]
  show (asrc 7 H (.slice b' 0 1 1 7) 1).bind _ = _
  rw [e]; rfl
theorem app_cons {H : AHeap} {b' B n : Nat} {cs xs : List AV} (h : H.cells b' = some xs) (hl : xs.length = 7) (hB : H.cells B = some cs) (hc : cs.length = n * 7) (hn : n < 2 ^ 20) :
    appTo 7 72 H (.slice B 0 n n 7) (.slice b' 0 1 1 7) = some (.move (fun b => .slice b 0 (n + 1) (n + 1) 7) B (cs ++ xs)):=by
  have e : asrc 7 H (.slice b' 0 1 1 7) 1 = some xs:=by
    simp [asrc,AHeap.rd,h,cutN,hl,List.take_of_length_le]
  show (asrc 7 H (.slice b' 0 1 1 7) 1).bind _ = _
  rw [e]
  show (H.cells B).bind _ = _
  rw [hB]
  have c1 : ¬ (n + 1 ≤ n):=by omega
  have c2 : (0 = 0∧(2 * (n + 1) + 1000) * 72 ≤ 2 ^ 47∧n * 7 ≤ cs.length):=⟨rfl,by omega,by omega⟩
  show (if ¬ 7 = 7 then none else if n + 1 ≤ n then _ else if 0 = 0∧(2 * (n + 1) + 1000) * 72 ≤ 2 ^ 47∧n * 7 ≤ cs.length then _ else none) = _
  rw [if_neg (by simp),if_neg c1,if_pos c2,List.take_of_length_le (by omega)]
theorem h_putn {H : AHeap} {b c : Nat} (h : (H.cells c).isSome = true) : (H.put c none).cells b = if b = c then none else H.cells b:=by
  obtain ⟨y,hy⟩:=Option.isSome_iff_exists.1 h
  unfold AHeap.cells
  by_cases e : b = c
  · subst e; rw [if_pos rfl,AHeap.get_put_self none (cells_get' hy)]
  · rw [if_neg e,AHeap.get_put_ne H none e]
theorem add_ev (s : ByteArray) (hs : s.size < 2 ^ 31) (bx BL a e : Nat) (hae : a ≤ e) (hes : e ≤ s.size) (T : AV) (k v : Int) (by_ : ByteArray) (j : Bool) (l : List (List AV)) (H : AHeap)
    (hx : H.cells bx = some [.sc (.str s),.sc (.int .i64 (a : Int)),.slice BL 0 1 1 1,T,.sc (.int .i64 0),.sc (.int .i64 0)]) (hb : H.cells BL = some [.sc (.int .i64 0)]) (hT : TokIs H T l)
    (hn : bx ≠ BL) (hf1 : bx ∉ fpS T) (hf2 : BL ∉ fpS T) (hl : l.length < 2 ^ 20) :
    Ev prog polW (.call 53 [.ptr bx 0,.agg [.sc (.int .i64 k),.sc (.str ⟨#[]⟩),.sc (.int .i64 v),.sc (.str by_),.sc (.int .i64 0),.sc (.int .i64 0),.sc (.bool false)],.sc (.int .i64 (e : Int)),.sc (.bool j)]) H fun o H' =>
      ∃ w,o = .val w∧∃ T',H'.cells bx = some [.sc (.str s),.sc (.int .i64 (e : Int)),.slice BL 0 1 1 1,T',.sc (.int .i64 0),.sc (.int .i64 0)] ∧
        TokIs H' T' (l ++ [tokN k (s.extract a e) v by_ (a + 1) (j && !l.isEmpty)])∧Only (bx :: fpS T) H H'∧∀ b ∈ fpS T',H.next ≤ b:=by
  have lx:=cells_lt hx
  have lb:=cells_lt hb
  have n1 : ¬ bx = H.next:=by omega
  have n2 : ¬ BL = H.next:=by omega
  have n3 : ¬ H.next = bx:=by omega
  have n4 : ¬ H.next = BL:=by omega
  have c0 : a ≤ e∧e ≤ s.size:=⟨hae,hes⟩
  obtain ⟨h7,⟨rfl,rfl⟩ | ⟨hne,B,rfl,hB⟩⟩:=hT
  · refine wpF_ok ok53 ?_
    cases j <;>
    · simp -implicitDefEqProofs (maxDischargeDepth:=12) only [wpF,cf53,WZ,seval,hx,hb,n1,n2,n3,n4,c0,e_ru]
      refine wA_call rfl ((place_ev s bx BL a (by omega) (a : Int) (.sc .nils) (.sc (.int .i64 0)) _ (by simp -implicitDefEqProofs (maxDischargeDepth:=12) only [WZ,seval,hx,n1]) (by simp -implicitDefEqProofs (maxDischargeDepth:=12) only [WZ,seval,hb,n2])).mono ?_)
      rintro o H1 ⟨v,rfl,rfl,rfl⟩
      refine ⟨_,rfl,fun c hc => by simp at hc,?_⟩
      simp -implicitDefEqProofs (maxDischargeDepth:=12) only [WZ,seval,hx,hb,n1,n2,n3,n4]
      rw [app_nil (xs:=tokN k (s.extract a e) v by_ (a + 1) false) (by simp -implicitDefEqProofs (maxDischargeDepth:=12) only [WZ,seval,tokN]) rfl]
      have n5 : ¬ bx = H.next + 1:=by omega
      have n6 : ¬ bx = H.next + 1 + 1:=by omega
      simp -implicitDefEqProofs (maxDischargeDepth:=12) only [WZ,seval,hx,n1,n5,n6]
      refine ⟨_,rfl,.slice (H.next + 1 + 1) 0 1 1 7,?_,⟨?_,.inr ⟨by simp,H.next + 1 + 1,rfl,?_⟩⟩,?_,?_⟩
      · simp -implicitDefEqProofs (maxDischargeDepth:=12) only [WZ,seval,hx,n1,n5,n6]
      · intro x hx'; simp at hx'; subst hx'; exact ⟨rfl,rfl⟩
      · have n7 : ¬ H.next + 1 + 1 = bx:=by omega
        simp -implicitDefEqProofs (maxDischargeDepth:=12) only [WZ,seval,hx,n1,n3,n5,n6,n7,tokN,List.flatten_cons,List.flatten_nil,List.isEmpty_nil]
      · (repeat (first | exact Only.refl | refine Only.put ?_ (by first | (right; omega) | (left; exact List.mem_cons_self ..) | (left; simp [fpS])) | refine Only.alloc ?_))
      · intro b hb'; simp [fpS] at hb'; omega
  · have lB:=cells_lt hB
    simp only [fpS,List.mem_singleton] at hf1 hf2
    have m1 : ¬ B = H.next:=by omega
    have m2 : ¬ H.next = B:=by omega
    have m3 : ¬ B = bx:=fun e => hf1 e.symm
    have hlen:=flat7 h7
    have hpos : ((l.length : Nat) : Int) > 0:=by
      have : l.length ≠ 0:=fun e => hne (List.length_eq_zero_iff.1 e)
      omega
    have hdec : (!l.isEmpty) = true:=by simp [hne]
    refine wpF_ok ok53 ?_
    cases j
    case false =>
      simp -implicitDefEqProofs (maxDischargeDepth:=12) only [wpF,cf53,WZ,seval,hx,hb,hB,n1,n2,n3,n4,m1,m2,m3,hf1,c0,e_ru,hpos]
      refine wA_call rfl ((place_ev s bx BL a (by omega) (a : Int) (.slice B 0 l.length l.length 7) (.sc (.int .i64 0)) _ (by simp -implicitDefEqProofs (maxDischargeDepth:=12) only [WZ,seval,hx,n1]) (by simp -implicitDefEqProofs (maxDischargeDepth:=12) only [WZ,seval,hb,n2])).mono ?_)
      rintro o H1 ⟨v,rfl,rfl,rfl⟩
      refine ⟨_,rfl,fun c hc => by simp at hc,?_⟩
      simp -implicitDefEqProofs (maxDischargeDepth:=12) only [WZ,seval,hx,hb,hB,n1,n2,n3,n4,m1,m2,m3,hf1]
      have n5 : ¬ bx = H.next + 1:=by omega
      have n6 : ¬ bx = H.next + 1 + 1:=by omega
      have n7 : ¬ H.next + 1 + 1 = bx:=by omega
      have m5 : ¬ B = H.next + 1:=by omega
      have m6 : ¬ B = H.next + 1 + 1:=by omega
      rw [app_cons (xs:=tokN k (s.extract a e) v by_ (a + 1) false) (cs:=l.flatten) (by simp -implicitDefEqProofs (maxDischargeDepth:=12) only [WZ,seval,tokN]) rfl (by simp -implicitDefEqProofs (maxDischargeDepth:=12) only [WZ,seval,hB,m1,m5]) hlen hl]
      simp -implicitDefEqProofs (maxDischargeDepth:=12) only [WZ,seval,hx,hB,n1,n5,n6,m1,m5,h_putn,hf1]
      refine ⟨_,rfl,.slice (H.next + 1 + 1) 0 (l.length + 1) (l.length + 1) 7,?_,⟨?_,.inr ⟨by simp,H.next + 1 + 1,by simp,?_⟩⟩,?_,?_⟩
      · simp -implicitDefEqProofs (maxDischargeDepth:=12) only [WZ,seval,hx,hB,n1,n5,n6,m1,m5,h_putn,hf1]
      · intro x hx'
        rcases List.mem_append.1 hx' with hx' | hx'
        · exact h7 x hx'
        · simp at hx'; subst hx'; exact ⟨rfl,rfl⟩
      · simp -implicitDefEqProofs (maxDischargeDepth:=12) only [WZ,seval,hx,hB,n1,n3,n5,n6,n7,m1,m5,h_putn,hf1,tokN,List.flatten_append,List.flatten_cons,List.flatten_nil,hdec,List.isEmpty_nil]
      · (repeat (first | exact Only.refl | refine Only.put ?_ (by first | (right; omega) | (left; exact List.mem_cons_self ..) | (left; simp [fpS])) | refine Only.alloc ?_))
      · intro b hb'; simp [fpS] at hb'; omega
    case true =>
      simp -implicitDefEqProofs (maxDischargeDepth:=12) only [wpF,cf53,WZ,seval,hx,hb,hB,n1,n2,n3,n4,m1,m2,m3,hf1,c0,e_ru,hpos]
      refine wA_call rfl ((place_ev s bx BL a (by omega) (a : Int) (.slice B 0 l.length l.length 7) (.sc (.int .i64 0)) _ (by simp -implicitDefEqProofs (maxDischargeDepth:=12) only [WZ,seval,hx,n1]) (by simp -implicitDefEqProofs (maxDischargeDepth:=12) only [WZ,seval,hb,n2])).mono ?_)
      rintro o H1 ⟨v,rfl,rfl,rfl⟩
      refine ⟨_,rfl,fun c hc => by simp at hc,?_⟩
      simp -implicitDefEqProofs (maxDischargeDepth:=12) only [WZ,seval,hx,hb,hB,n1,n2,n3,n4,m1,m2,m3,hf1]
      have n5 : ¬ bx = H.next + 1:=by omega
      have n6 : ¬ bx = H.next + 1 + 1:=by omega
      have n7 : ¬ H.next + 1 + 1 = bx:=by omega
      have m5 : ¬ B = H.next + 1:=by omega
      have m6 : ¬ B = H.next + 1 + 1:=by omega
      rw [app_cons (xs:=tokN k (s.extract a e) v by_ (a + 1) true) (cs:=l.flatten) (by simp -implicitDefEqProofs (maxDischargeDepth:=12) only [WZ,seval,tokN]) rfl (by simp -implicitDefEqProofs (maxDischargeDepth:=12) only [WZ,seval,hB,m1,m5]) hlen hl]
      simp -implicitDefEqProofs (maxDischargeDepth:=12) only [WZ,seval,hx,hB,n1,n5,n6,m1,m5,h_putn,hf1]
      refine ⟨_,rfl,.slice (H.next + 1 + 1) 0 (l.length + 1) (l.length + 1) 7,?_,⟨?_,.inr ⟨by simp,H.next + 1 + 1,by simp,?_⟩⟩,?_,?_⟩
      · simp -implicitDefEqProofs (maxDischargeDepth:=12) only [WZ,seval,hx,hB,n1,n5,n6,m1,m5,h_putn,hf1]
      · intro x hx'
        rcases List.mem_append.1 hx' with hx' | hx'
        · exact h7 x hx'
        · simp at hx'; subst hx'; exact ⟨rfl,rfl⟩
      · simp -implicitDefEqProofs (maxDischargeDepth:=12) only [WZ,seval,hx,hB,n1,n3,n5,n6,n7,m1,m5,h_putn,hf1,tokN,List.flatten_append,List.flatten_cons,List.flatten_nil,hdec,List.isEmpty_nil]
      · (repeat (first | exact Only.refl | refine Only.put ?_ (by first | (right; omega) | (left; exact List.mem_cons_self ..) | (left; simp [fpS])) | refine Only.alloc ?_))
      · intro b hb'; simp [fpS] at hb'; omega
end Go.Hem
namespace Go.Hem
theorem ins_atoi : insB prog 109 = true:=by kernel_rfl
theorem ins_ixb : insB prog 115 = true:=by kernel_rfl
theorem eff_atoi (args : List AV) (H : AHeap) : polW.eff 109 args H = atoiEff args H:=rfl
theorem eff_ixb (args : List AV) (H : AHeap) : polW.eff 115 args H = ixbEff args H:=rfl
theorem callee_digit (args : List AV) : acallee prog 108 args = some (.call 108 args):=acB_spec ac108 args
theorem callee_inWord (args : List AV) : acallee prog 107 args = some (.call 107 args):=acB_spec ac107 args
def Took (s : ByteArray) (bx BL e : Nat) (T : AV) (H : AHeap) (l : List (List AV)) (tk : List AV) (v : AV) (H' : AHeap) : Prop :=
  v = .sc (.bool true)∧∃ T',H'.cells bx = some [.sc (.str s),.sc (.int .i64 (e : Int)),.slice BL 0 1 1 1,T',.sc (.int .i64 0),.sc (.int .i64 0)] ∧
    TokIs H' T' (l ++ [tk])∧Only (bx :: fpS T) H H'∧∀ b ∈ fpS T',H.next ≤ b
structure Sc0 (s : ByteArray) (bx BL a : Nat) (T : AV) (l : List (List AV)) (H : AHeap) : Prop where
  hs : s.size < 2 ^ 31
  hx : H.cells bx = some [.sc (.str s),.sc (.int .i64 (a : Int)),.slice BL 0 1 1 1,T,.sc (.int .i64 0),.sc (.int .i64 0)]
  hb : H.cells BL = some [.sc (.int .i64 0)]
  hT : TokIs H T l
  hn : bx ≠ BL
  hf1 : bx ∉ fpS T
  hf2 : BL ∉ fpS T
  hl : l.length < 2 ^ 20
section
variable {s : ByteArray} {bx BL a : Nat} {T : AV} {l : List (List AV)} {H : AHeap} {c : UInt8} (h : Sc0 s bx BL a T l H) (hc : s[a]? = some c)
include h hc
theorem word_no (hl : isLetter c = false) (j : Bool) : Ev prog polW (.call 48 [.ptr bx 0,.sc (.bool j)]) H fun o H' => ∃ v,o = .val v∧v = .sc (.bool false)∧H' = H:=by
  have hx:=h.hx
  refine wpF_ok ok48 ?_
  simp -implicitDefEqProofs (maxDischargeDepth:=12) only [wpF,cf48,WZ,seval,hx,e_strAt,hc]
  refine wA_pure rfl (letter_pv c) ?_
  simp -implicitDefEqProofs (maxDischargeDepth:=12) only [WZ,seval,hl]
theorem number_no (hl : isDigit c = false) (j : Bool) : Ev prog polW (.call 49 [.ptr bx 0,.sc (.bool j)]) H fun o H' => ∃ v,o = .val v∧v = .sc (.bool false)∧H' = H:=by
  have hx:=h.hx
  refine wpF_ok ok49 ?_
  simp -implicitDefEqProofs (maxDischargeDepth:=12) only [wpF,cf49,WZ,seval,hx,e_strAt,hc]
  refine wA_pure rfl (digit_pv c) ?_
  simp -implicitDefEqProofs (maxDischargeDepth:=12) only [WZ,seval,hl]
theorem text_no (hl : ¬ ((c.toNat : Nat) : Int) = 34) (j : Bool) : Ev prog polW (.call 50 [.ptr bx 0,.sc (.bool j)]) H fun o H' => ∃ v,o = .val v∧v = .sc (.bool false)∧H' = H:=by
  have hx:=h.hx
  refine wpF_ok ok50 ?_
  simp -implicitDefEqProofs (maxDischargeDepth:=12) only [wpF,cf50,WZ,seval,hx,e_strAt,hc,hl]
theorem word_yes {e : Nat} (hl : isLetter c = true) (hae : a ≤ e) (hes : e ≤ s.size) (hall : ∀ i : Nat,a ≤ i→i < e→∃ d : UInt8,s[i]? = some d∧isInW d = true) (hend : ∀ d : UInt8,s[e]? = some d→isInW d = false) (h64 : e - a ≤ 64) (j : Bool) :
    Ev prog polW (.call 48 [.ptr bx 0,.sc (.bool j)]) H fun o H' => ∃ v,o = .val v∧Took s bx BL e T H l (tokN 1 (s.extract a e) 0 ⟨#[]⟩ (a + 1) (j && !l.isEmpty)) v H':=by
  have hx:=h.hx
  have hs:=h.hs
  have c1 : ¬ (64 : Int) < (((e - a : Nat) : Nat) : Int):=by omega
  have w1 : IntKind.i64.wrap ((e : Int) - (a : Int)) = (((e - a : Nat) : Nat) : Int):=by rw [w64 (by omega) (by omega)]; omega
  refine wpF_ok ok48 ?_
  simp -implicitDefEqProofs (maxDischargeDepth:=12) only [wpF,cf48,WZ,seval,hx,e_strAt,hc]
  refine wA_pure rfl (letter_pv c) ?_
  simp -implicitDefEqProofs (maxDischargeDepth:=12) only [WZ,seval,hl,hx]
  refine wA_call rfl ((run_ev 107 isInW callee_inWord rfl inWord_pv s hs bx _ a e hae hes hall hend H hx).mono ?_)
  rintro o H1 ⟨v,rfl,rfl,rfl⟩
  refine ⟨_,rfl,fun c hc => by simp at hc,?_⟩
  simp -implicitDefEqProofs (maxDischargeDepth:=12) only [WZ,seval,hx,w1,c1,gt_iff_lt]
  refine wA_call rfl ((add_ev s hs bx BL a e hae hes T 1 0 ⟨#[]⟩ j l _ hx h.hb h.hT h.hn h.hf1 h.hf2 h.hl).mono ?_)
  rintro o H1 ⟨v,rfl,T',h1,h2,h3,h4⟩
  refine ⟨_,rfl,fun c hc => by simp at hc,?_⟩
  simp -implicitDefEqProofs (maxDischargeDepth:=12) only [WZ,seval]
  exact ⟨rfl,T',h1,h2,h3,h4⟩
theorem number_yes {e : Nat} {n : Int} (hl : isDigit c = true) (hae : a ≤ e) (hes : e ≤ s.size) (hall : ∀ i : Nat,a ≤ i→i < e→∃ d : UInt8,s[i]? = some d∧isDigit d = true) (hend : ∀ d : UInt8,s[e]? = some d→isDigit d = false) (h15 : e - a ≤ 15)
    (hv : Lib.atoi (s.extract a e).data.toList = some n) (j : Bool) :
    Ev prog polW (.call 49 [.ptr bx 0,.sc (.bool j)]) H fun o H' => ∃ v,o = .val v∧Took s bx BL e T H l (tokN 2 (s.extract a e) n ⟨#[]⟩ (a + 1) (j && !l.isEmpty)) v H':=by
  have hx:=h.hx
  have hs:=h.hs
  have c0 : a ≤ e∧e ≤ s.size:=⟨hae,hes⟩
  have c1 : ¬ (15 : Int) < (((e - a : Nat) : Nat) : Int):=by omega
  have w1 : IntKind.i64.wrap ((e : Int) - (a : Int)) = (((e - a : Nat) : Nat) : Int):=by rw [w64 (by omega) (by omega)]; omega
  refine wpF_ok ok49 ?_
  simp -implicitDefEqProofs (maxDischargeDepth:=12) only [wpF,cf49,WZ,seval,hx,e_strAt,hc]
  refine wA_pure rfl (digit_pv c) ?_
  simp -implicitDefEqProofs (maxDischargeDepth:=12) only [WZ,seval,hl,hx]
  refine wA_call rfl ((run_ev 108 isDigit callee_digit rfl digit_pv s hs bx _ a e hae hes hall hend H hx).mono ?_)
  rintro o H1 ⟨v,rfl,rfl,rfl⟩
  refine ⟨_,rfl,fun c hc => by simp at hc,?_⟩
  simp -implicitDefEqProofs (maxDischargeDepth:=12) only [WZ,seval,hx,w1,c1,gt_iff_lt,c0]
  have hz : (s.extract a e).size ≤ 18:=by rw [ByteArray.size_extract]; omega
  have he : ∀ H0,polW.eff 109 [.sc (.str (s.extract a e))] H0 = some (.tup [.sc (.int .i64 n),.sc .nili],H0):=fun H0 => by
    rw [eff_atoi]
    simp only [atoiEff,hz,if_true,hv,Option.map_some]
  refine wA_call rfl (ev_eff ins_atoi (he _) ⟨_,rfl,fun c hc => by simp at hc,?_⟩)
  simp -implicitDefEqProofs (maxDischargeDepth:=12) only [WZ,seval]
  refine wA_call rfl ((add_ev s hs bx BL a e hae hes T 2 n ⟨#[]⟩ j l _ hx h.hb h.hT h.hn h.hf1 h.hf2 h.hl).mono ?_)
  rintro o H1 ⟨v,rfl,T',h1,h2,h3,h4⟩
  refine ⟨_,rfl,fun c hc => by simp at hc,?_⟩
  simp -implicitDefEqProofs (maxDischargeDepth:=12) only [WZ,seval]
  exact ⟨rfl,T',h1,h2,h3,h4⟩
theorem symbol_yes {k : Nat} (hl : Lib.indexByte symBytes c = (k : Int)) (j : Bool) :
    Ev prog polW (.call 51 [.ptr bx 0,.sc (.bool j)]) H fun o H' => ∃ v,o = .val v∧Took s bx BL (a + 1) T H l (tokN 4 (s.extract a (a + 1)) 0 ⟨#[]⟩ (a + 1) (j && !l.isEmpty)) v H':=by
  have hx:=h.hx
  have hs:=h.hs
  have ha : a < s.size:=by
    apply Classical.byContradiction; intro q
    have hq : s[a]? = none:=getElem?_neg s a q
    rw [hq] at hc; cases hc
  have c1 : ¬ ((k : Int) < 0):=by omega
  have w1 : IntKind.i64.wrap ((a : Int) + 1) = ((a + 1 : Nat) : Int):=by rw [w64 (by omega) (by omega)]; omega
  have hcc : ((((c.toNat : Nat) : Int)).toNat).toUInt8 = c:=by simp
  refine wpF_ok ok51 ?_
  simp -implicitDefEqProofs (maxDischargeDepth:=12) only [wpF,cf51,WZ,seval,hx,e_strAt,hc]
  have he : ∀ H0,polW.eff 115 [.sc (.str ⟨#[33,35,36,38,39,40,41,42,43,44,45,46,47,58,59,60,61,62,63,64,91,92,93,94,95,123,124,125,126]⟩),.sc (.int .u8 ((c.toNat : Nat) : Int))] H0 = some (.sc (.int .i64 (k : Int)),H0):=fun H0 => by
    rw [eff_ixb]
    simp only [ixbEff,hcc]
    rw [show Lib.indexByte (#[33,35,36,38,39,40,41,42,43,44,45,46,47,58,59,60,61,62,63,64,91,92,93,94,95,123,124,125,126] : Array UInt8).toList c = (k : Int) from hl]
  refine wA_call rfl (ev_eff ins_ixb (he _) ⟨_,rfl,fun c hc => by simp at hc,?_⟩)
  simp -implicitDefEqProofs (maxDischargeDepth:=12) only [WZ,seval,c1,hx,w1]
  refine wA_call rfl ((add_ev s hs bx BL a (a + 1) (by omega) (by omega) T 4 0 ⟨#[]⟩ j l _ hx h.hb h.hT h.hn h.hf1 h.hf2 h.hl).mono ?_)
  rintro o H1 ⟨v,rfl,T',h1,h2,h3,h4⟩
  refine ⟨_,rfl,fun c hc => by simp at hc,?_⟩
  simp -implicitDefEqProofs (maxDischargeDepth:=12) only [WZ,seval]
  exact ⟨rfl,T',h1,h2,h3,h4⟩
end
end Go.Hem
namespace Go.Hem
theorem callee_word (args : List AV) : acallee prog 48 args = some (.call 48 args):=acB_spec ac48 args
theorem callee_number (args : List AV) : acallee prog 49 args = some (.call 49 args):=acB_spec ac49 args
theorem callee_text (args : List AV) : acallee prog 50 args = some (.call 50 args):=acB_spec ac50 args
theorem callee_symbol (args : List AV) : acallee prog 51 args = some (.call 51 args):=acB_spec ac51 args
theorem callee_scan1 (args : List AV) : acallee prog 56 args = some (.call 56 args):=acB_spec ac56 args
theorem cl_ev (f : FuncId) (hf : ∀ args,acallee prog f args = some (.call f args)) (hp : polW.pure f = false) (bx b1 b3 : Nat) (j : Bool) (H : AHeap) (h1 : H.cells b1 = some [.ptr bx 0]) (h3 : H.cells b3 = some [.sc (.bool j)])
    {Q : AV→AHeap→Prop} (h : Ev prog polW (.call f [.ptr bx 0,.sc (.bool j)]) H fun o H' => ∃ v,o = .val v∧Q v H') :
    Ev prog polW (.call 56 [.func (.func f) [] [],.ptr b1 0,.ptr b3 0]) H fun o H' => ∃ v,o = .val v∧Q v H':=by
  refine wpF_ok ok56 ?_
  simp -implicitDefEqProofs (maxDischargeDepth:=12) only [wpF,cf56,WZ,seval,h1,h3,e_callf,hf]
  refine wA_call hp (h.mono ?_)
  rintro o H1 ⟨v,rfl,hq⟩
  refine ⟨_,rfl,fun c hc => by simp at hc,?_⟩
  simp -implicitDefEqProofs (maxDischargeDepth:=12) only [WZ,seval]
  exact hq
theorem i1 : IntKind.i64.wrap 1 = 1:=by decide
theorem i2 : IntKind.i64.wrap 2 = 2:=by decide
theorem i3 : IntKind.i64.wrap 3 = 3:=by decide
theorem i4 : IntKind.i64.wrap 4 = 4:=by decide
def kindsC : List AV:=[.func (.func 48) [] [],.func (.func 49) [] [],.func (.func 50) [] [],.func (.func 51) [] []]
section
variable {s : ByteArray} {bx BL a : Nat} {T : AV} {l : List (List AV)} {H : AHeap} {c : UInt8} {BK b1 b3 : Nat} {j : Bool} (h : Sc0 s bx BL a T l H) (hc : s[a]? = some c)
  (hK : H.cells BK = some kindsC) (h1 : H.cells b1 = some [.ptr bx 0]) (h3 : H.cells b3 = some [.sc (.bool j)])
include h hc hK h1 h3
theorem cont_word {e : Nat} (hl : isLetter c = true) (hae : a ≤ e) (hes : e ≤ s.size) (hall : ∀ i : Nat,a ≤ i→i < e→∃ d : UInt8,s[i]? = some d∧isInW d = true) (hend : ∀ d : UInt8,s[e]? = some d→isInW d = false) (h64 : e - a ≤ 64) :
    Ev prog polW (.call 55 [.slice BK 0 4 4 1,.func (.func 56) [] [.ptr b1 0,.ptr b3 0]]) H fun o H' => ∃ v,o = .val v∧Took s bx BL e T H l (tokN 1 (s.extract a e) 0 ⟨#[]⟩ (a + 1) (j && !l.isEmpty)) v H':=by
  unfold kindsC at hK
  refine wpF_ok ok55 ?_
  simp -implicitDefEqProofs (maxDischargeDepth:=12) only [wpF,cf55,WZ,seval]
  refine wA_call rfl (wpF_ok ok118 ?_)
  simp -implicitDefEqProofs (maxDischargeDepth:=12) only [wpF,cf118,WZ,seval]
  refine wp_unroll 5 ?_
  simp -implicitDefEqProofs (maxDischargeDepth:=12) only [WZ,seval,hK,e_callf,callee_scan1,i1,i2,i3,i4]
  refine wA_call rfl ((cl_ev _ callee_word rfl bx b1 b3 j _ h1 h3 (word_yes h hc hl hae hes hall hend h64 j)).mono ?_)
  rintro o H1 ⟨v,rfl,rfl,hq⟩
  refine ⟨_,rfl,fun c hc => by simp at hc,?_⟩
  simp -implicitDefEqProofs (maxDischargeDepth:=12) only [tI_ret,tI_exit,WZ,seval]
  exact ⟨rfl,hq⟩
theorem cont_number {e : Nat} {n : Int} (hl0 : isLetter c = false) (hl : isDigit c = true) (hae : a ≤ e) (hes : e ≤ s.size) (hall : ∀ i : Nat,a ≤ i→i < e→∃ d : UInt8,s[i]? = some d∧isDigit d = true) (hend : ∀ d : UInt8,s[e]? = some d→isDigit d = false) (h15 : e - a ≤ 15)
    (hv : Lib.atoi (s.extract a e).data.toList = some n) :
    Ev prog polW (.call 55 [.slice BK 0 4 4 1,.func (.func 56) [] [.ptr b1 0,.ptr b3 0]]) H fun o H' => ∃ v,o = .val v∧Took s bx BL e T H l (tokN 2 (s.extract a e) n ⟨#[]⟩ (a + 1) (j && !l.isEmpty)) v H':=by
  unfold kindsC at hK
  refine wpF_ok ok55 ?_
  simp -implicitDefEqProofs (maxDischargeDepth:=12) only [wpF,cf55,WZ,seval]
  refine wA_call rfl (wpF_ok ok118 ?_)
  simp -implicitDefEqProofs (maxDischargeDepth:=12) only [wpF,cf118,WZ,seval]
  refine wp_unroll 5 ?_
  simp -implicitDefEqProofs (maxDischargeDepth:=12) only [WZ,seval,hK,e_callf,callee_scan1,i1,i2,i3,i4]
  refine wA_call rfl ((cl_ev _ callee_word rfl bx b1 b3 j _ h1 h3 (word_no h hc hl0 j)).mono ?_)
  rintro o H1 ⟨v,rfl,rfl,rfl⟩
  refine ⟨_,rfl,fun c hc => by simp at hc,?_⟩
  simp -implicitDefEqProofs (maxDischargeDepth:=12) only [tI_normal,WZ,seval,i1,i2,i3,i4]
  refine wpI_succ ?_
  simp -implicitDefEqProofs (maxDischargeDepth:=12) only [WZ,seval,hK,e_callf,callee_scan1,i1,i2,i3,i4]
  refine wA_call rfl ((cl_ev _ callee_number rfl bx b1 b3 j _ h1 h3 (number_yes h hc hl hae hes hall hend h15 hv j)).mono ?_)
  rintro o H1 ⟨v,rfl,rfl,hq⟩
  refine ⟨_,rfl,fun c hc => by simp at hc,?_⟩
  simp -implicitDefEqProofs (maxDischargeDepth:=12) only [tI_ret,tI_exit,WZ,seval]
  exact ⟨rfl,hq⟩
theorem cont_symbol {k : Nat} (hl0 : isLetter c = false) (hl1 : isDigit c = false) (hl2 : ¬ ((c.toNat : Nat) : Int) = 34) (hl : Lib.indexByte symBytes c = (k : Int)) :
    Ev prog polW (.call 55 [.slice BK 0 4 4 1,.func (.func 56) [] [.ptr b1 0,.ptr b3 0]]) H fun o H' => ∃ v,o = .val v∧Took s bx BL (a + 1) T H l (tokN 4 (s.extract a (a + 1)) 0 ⟨#[]⟩ (a + 1) (j && !l.isEmpty)) v H':=by
  unfold kindsC at hK
  refine wpF_ok ok55 ?_
  simp -implicitDefEqProofs (maxDischargeDepth:=12) only [wpF,cf55,WZ,seval]
  refine wA_call rfl (wpF_ok ok118 ?_)
  simp -implicitDefEqProofs (maxDischargeDepth:=12) only [wpF,cf118,WZ,seval]
  refine wp_unroll 5 ?_
  simp -implicitDefEqProofs (maxDischargeDepth:=12) only [WZ,seval,hK,e_callf,callee_scan1,i1,i2,i3,i4]
  refine wA_call rfl ((cl_ev _ callee_word rfl bx b1 b3 j _ h1 h3 (word_no h hc hl0 j)).mono ?_)
  rintro o H1 ⟨v,rfl,rfl,rfl⟩
  refine ⟨_,rfl,fun c hc => by simp at hc,?_⟩
  simp -implicitDefEqProofs (maxDischargeDepth:=12) only [tI_normal,WZ,seval,i1,i2,i3,i4]
  refine wpI_succ ?_
  simp -implicitDefEqProofs (maxDischargeDepth:=12) only [WZ,seval,hK,e_callf,callee_scan1,i1,i2,i3,i4]
  refine wA_call rfl ((cl_ev _ callee_number rfl bx b1 b3 j _ h1 h3 (number_no h hc hl1 j)).mono ?_)
  rintro o H1 ⟨v,rfl,rfl,rfl⟩
  refine ⟨_,rfl,fun c hc => by simp at hc,?_⟩
  simp -implicitDefEqProofs (maxDischargeDepth:=12) only [tI_normal,WZ,seval,i1,i2,i3,i4]
  refine wpI_succ ?_
  simp -implicitDefEqProofs (maxDischargeDepth:=12) only [WZ,seval,hK,e_callf,callee_scan1,i1,i2,i3,i4]
  refine wA_call rfl ((cl_ev _ callee_text rfl bx b1 b3 j _ h1 h3 (text_no h hc hl2 j)).mono ?_)
  rintro o H1 ⟨v,rfl,rfl,rfl⟩
  refine ⟨_,rfl,fun c hc => by simp at hc,?_⟩
  simp -implicitDefEqProofs (maxDischargeDepth:=12) only [tI_normal,WZ,seval,i1,i2,i3,i4]
  refine wpI_succ ?_
  simp -implicitDefEqProofs (maxDischargeDepth:=12) only [WZ,seval,hK,e_callf,callee_scan1,i1,i2,i3,i4]
  refine wA_call rfl ((cl_ev _ callee_symbol rfl bx b1 b3 j _ h1 h3 (symbol_yes h hc hl j)).mono ?_)
  rintro o H1 ⟨v,rfl,rfl,hq⟩
  refine ⟨_,rfl,fun c hc => by simp at hc,?_⟩
  simp -implicitDefEqProofs (maxDischargeDepth:=12) only [tI_ret,tI_exit,WZ,seval]
  exact ⟨rfl,hq⟩
end
end Go.Hem
namespace Go.Hem
open Go
theorem ba_get (s : ByteArray) (i : Nat) : s[i]? = s.data.toList[i]?:=by
  by_cases h : i < s.size
  · rw [getElem?_pos s i h,List.getElem?_eq_getElem (by simpa using h)]; rfl
  · rw [getElem?_neg s i h,List.getElem?_eq_none (by simpa using h)]
theorem ba_size (s : ByteArray) : s.size = s.data.toList.length:=rfl
theorem ba_extract {s : ByteArray} {pre tx post : List UInt8} (h : s.data.toList = pre ++ (tx ++ post)) : s.extract pre.length (pre.length + tx.length) = ba tx:=by
  unfold ba
  have : (s.extract pre.length (pre.length + tx.length)).data.toList = tx:=by
    rw [ByteArray.data_extract,Array.toList_extract,h,List.extract_eq_take_drop]
    simp
  cases hq : s.extract pre.length (pre.length + tx.length) with
  | mk d => rw [hq] at this; simp only at this; rw [← this]
theorem get_mid {s : ByteArray} {pre tx post : List UInt8} (h : s.data.toList = pre ++ (tx ++ post)) {i : Nat} (h1 : pre.length ≤ i) (h2 : i < pre.length + tx.length) : ∃ d,s[i]? = some d∧d ∈ tx:=by
  refine ⟨tx[i - pre.length]'(by omega),?_,List.getElem_mem _⟩
  rw [ba_get,h,List.getElem?_append_right h1,List.getElem?_append_left (by omega),List.getElem?_eq_getElem (by omega)]
theorem get_end {s : ByteArray} {pre tx post : List UInt8} (h : s.data.toList = pre ++ (tx ++ post)) : s[pre.length + tx.length]? = post.head?:=by
  rw [ba_get,h,List.getElem?_append_right (by omega),List.getElem?_append_right (by omega),List.head?_eq_getElem?]
  congr 1; omega
theorem textOf_cons (p : Pc) (l : List Pc) : textOf (p :: l) = List.replicate p.sp 32 ++ (p.tx ++ textOf l):=by
  unfold textOf; rw [List.flatMap_cons]; unfold Pc.bytes; rw [List.append_assoc]
theorem sym_idx (c : UInt8) (h : symBytes.contains c = true) : ∃ k : Nat,Lib.indexByte symBytes c = (k : Int):=by
  have : ∀ (l : List UInt8),c ∈ l→∃ k : Nat,Lib.indexByte l c = (k : Int):=by
    intro l
    induction l with
    | nil => intro h; cases h
    | cons b l ih =>
      intro h
      by_cases e : b = c
      · exact ⟨0,by simp [Lib.indexByte,e]⟩
      · obtain ⟨k,hk⟩:=ih (by rcases List.mem_cons.1 h with h | h; exact absurd h.symm e; exact h)
        refine ⟨k + 1,?_⟩
        have e1 : ((k : Int) == -1) = false:=by rw [beq_eq_false_iff_ne]; omega
        simp [Lib.indexByte,e,hk,e1]
  exact this symBytes (by simpa using h)
theorem dig_from (l : List UInt8) (acc : Nat) (h : l.all isDigit = true) : Lib.decFrom acc l = some (l.foldl (fun a c => a * 10 + (c.toNat - 48)) acc):=by
  induction l generalizing acc with
  | nil => rfl
  | cons c l ih =>
    simp only [List.all_cons,Bool.and_eq_true,isDigit,decide_eq_true_eq] at h
    obtain ⟨⟨h1,h2⟩,h3⟩:=h
    have e : Lib.digitVal c = some (c.toNat - 48):=by unfold Lib.digitVal; rw [if_pos ⟨h1,h2⟩]
    rw [Lib.decFrom,e,List.foldl_cons]
    exact ih _ h3
theorem dig_val (l : List UInt8) (h : l.all isDigit = true) (hne : l ≠ []) : Lib.atoi l = some ((numVal l : Nat) : Int):=by
  cases l with
  | nil => exact absurd rfl hne
  | cons c l =>
    have h':=h
    simp only [List.all_cons,Bool.and_eq_true,isDigit,decide_eq_true_eq] at h'
    obtain ⟨⟨h1,h2⟩,h3⟩:=h'
    have n1 : (c == 45) = false:=by rw [beq_eq_false_iff_ne]; rintro rfl; exact absurd h1 (by decide)
    have n2 : (c == 43) = false:=by rw [beq_eq_false_iff_ne]; rintro rfl; exact absurd h1 (by decide)
    have e : Lib.decNat (c :: l) = some (numVal (c :: l)):=by
      unfold Lib.decNat
      rw [if_neg (by simp)]
      exact dig_from (c :: l) 0 h
    simp only [Lib.atoi,n1,n2,e,Bool.false_eq_true,if_false,Option.map_some]
end Go.Hem
namespace Go.Hem
theorem TokIs.only {H H' : AHeap} {T : AV} {l : List (List AV)} {bs : List Nat} (h : TokIs H T l) (o : Only bs H H') (hf : ∀ b ∈ fpS T,b ∉ bs) : TokIs H' T l:=by
  obtain ⟨h7,⟨rfl,rfl⟩ | ⟨hne,B,rfl,hB⟩⟩:=h
  · exact ⟨h7,.inl ⟨rfl,rfl⟩⟩
  · exact ⟨h7,.inr ⟨hne,B,rfl,by rw [o.cells B (cells_lt hB) (hf B (by simp [fpS]))]; exact hB⟩⟩
theorem Sc0.only {s : ByteArray} {bx BL a : Nat} {T : AV} {l : List (List AV)} {H H' : AHeap} {bs : List Nat} (h : Sc0 s bx BL a T l H) (o : Only bs H H') (h1 : bx ∉ bs) (h2 : BL ∉ bs) (hf : ∀ b ∈ fpS T,b ∉ bs) : Sc0 s bx BL a T l H' :=
  ⟨h.hs,by rw [o.cells bx (cells_lt h.hx) h1]; exact h.hx,by rw [o.cells BL (cells_lt h.hb) h2]; exact h.hb,h.hT.only o hf,h.hn,h.hf1,h.hf2,h.hl⟩
theorem Sc0.at {s : ByteArray} {bx BL a b : Nat} {T : AV} {l : List (List AV)} {H H' : AHeap} (h : Sc0 s bx BL a T l H) (o : Only [bx] H H') (hx : H'.cells bx = some (scC s b (.slice BL 0 1 1 1) T (.sc (.int .i64 0)))) : Sc0 s bx BL b T l H' :=
  ⟨h.hs,hx,by rw [o.cells BL (cells_lt h.hb) (by simp; exact fun e => h.hn e.symm)]; exact h.hb,h.hT.only o (fun b hb => by simp; rintro rfl; exact h.hf1 hb),h.hn,h.hf1,h.hf2,h.hl⟩
theorem ev_fun {x : AV} {t : List AV} {f : FuncId} : aev (x :: t) (.func f) = .func (.func f) [] []:=rfl
theorem rep4 : rep 4 [AV.sc .nilf] = [.sc .nilf,.sc .nilf,.sc .nilf,.sc .nilf]:=rfl
theorem TokIs.len {H : AHeap} {T : AV} {l : List (List AV)} (h : TokIs H T l) : lenOf T = some (.sc (.int .i64 (l.length : Int))):=by
  obtain ⟨_,⟨rfl,rfl⟩ | ⟨_,_,rfl,_⟩⟩:=h <;> rfl
theorem cont_ev {s : ByteArray} {bx BL BK b1 b3 : Nat} {T : AV} {toks : List (List AV)} {H : AHeap} {pre : List UInt8} {p : Pc} {l : List Pc} (tx : s.data.toList = pre ++ textOf (p :: l)) (ok : pcsOk (p :: l) = true)
    (h : Sc0 s bx BL (pre.length + p.sp) T toks H) (hK : H.cells BK = some kindsC) (h1 : H.cells b1 = some [.ptr bx 0]) (h3 : H.cells b3 = some [.sc (.bool (decide (p.sp = 0)))]) :
    p.tx ≠ []∧Ev prog polW (.call 55 [.slice BK 0 4 4 1,.func (.func 56) [] [.ptr b1 0,.ptr b3 0]]) H fun o H' => ∃ v,o = .val v∧Took s bx BL (pre.length + p.sp + p.tx.length) T H toks (p.tok pre.length toks.isEmpty) v H':=by
  rw [textOf_cons,← List.append_assoc] at tx
  have hp : (pre ++ List.replicate p.sp 32).length = pre.length + p.sp:=by simp
  generalize hpre : pre ++ List.replicate p.sp 32 = pre1 at tx hp
  rw [← hp] at h
  simp only [pcsOk,Bool.and_eq_true] at ok
  obtain ⟨ok,_⟩:=ok
  obtain ⟨sp,k,w⟩:=p
  simp only at *
  unfold Pc.ok at ok
  simp only at ok
  have hend:=get_end (s:=s) (pre:=pre1) (tx:=w) (post:=textOf l) tx
  have hex:=ba_extract (s:=s) (pre:=pre1) (tx:=w) (post:=textOf l) tx
  have hsz : pre1.length + w.length ≤ s.size:=by rw [ba_size,tx,List.length_append,List.length_append]; omega
  split at ok
  · rename_i hk
    subst hk
    rw [Bool.and_eq_true] at ok
    obtain ⟨ok,okn⟩:=ok
    cases w with
    | nil => cases ok
    | cons c r =>
      simp only [Bool.and_eq_true,decide_eq_true_eq] at ok
      obtain ⟨⟨hc,hr⟩,hlen⟩:=ok
      refine ⟨by simp,?_⟩
      have hg : s[pre1.length]? = some c:=by rw [ba_get,tx]; simp
      have:=cont_word h hg hK h1 h3 (e:=pre1.length + (c :: r).length) hc (by omega) hsz (fun i hi1 hi2 => by
          obtain ⟨d,hd,hm⟩:=get_mid tx hi1 hi2
          refine ⟨d,hd,?_⟩
          rcases List.mem_cons.1 hm with rfl | hm
          · unfold isInW; rw [hc]; rfl
          · exact List.all_eq_true.1 hr d hm)
        (fun d hd => by rw [hend] at hd; rw [hd] at okn; simpa using okn) (by simp only [List.length_cons]; omega)
      rw [hex,hp] at this
      exact this
  · split at ok
    · rename_i _ hk
      subst hk
      rw [Bool.and_eq_true] at ok
      obtain ⟨ok,okn⟩:=ok
      cases w with
      | nil => cases ok
      | cons c r =>
        simp only [Bool.and_eq_true,decide_eq_true_eq] at ok
        obtain ⟨hr,hlen⟩:=ok
        refine ⟨by simp,?_⟩
        have hg : s[pre1.length]? = some c:=by rw [ba_get,tx]; simp
        have hc : isDigit c = true:=List.all_eq_true.1 hr c (.head _)
        have hcl : isLetter c = false:=by
          simp only [isDigit,Bool.and_eq_true,decide_eq_true_eq] at hc
          simp only [isLetter,Bool.or_eq_false_iff,Bool.and_eq_false_iff,decide_eq_false_iff_not]
          omega
        have:=cont_number h hg hK h1 h3 (e:=pre1.length + (c :: r).length) (n:=((numVal (c :: r) : Nat) : Int)) hcl hc (by omega) hsz (fun i hi1 hi2 => by
            obtain ⟨d,hd,hm⟩:=get_mid tx hi1 hi2
            exact ⟨d,hd,List.all_eq_true.1 hr d hm⟩)
          (fun d hd => by rw [hend] at hd; rw [hd] at okn; simpa using okn) (by simp only [List.length_cons]; omega) (by rw [hex]; exact dig_val (c :: r) hr (List.cons_ne_nil _ _))
        rw [hex,hp] at this
        exact this
    · split at ok
      · rename_i _ _ hk
        subst hk
        cases w with
        | nil => cases ok
        | cons c r =>
          cases r with
          | cons _ _ => cases ok
          | nil =>
            refine ⟨by simp,?_⟩
            have hg : s[pre1.length]? = some c:=by rw [ba_get,tx]; simp
            obtain ⟨kk,hkk⟩:=sym_idx c ok
            have hall : (symBytes.all fun c => !isLetter c && !isDigit c && !(c.toNat == 34)) = true:=by decide
            have hc3:=List.all_eq_true.1 hall c (by simpa using ok)
            simp only [Bool.and_eq_true,Bool.not_eq_true',beq_eq_false_iff_ne] at hc3
            obtain ⟨⟨hc1,hc2⟩,hc3⟩:=hc3
            have:=cont_symbol h hg hK h1 h3 hc1 hc2 (by omega) hkk
            rw [show pre1.length + 1 = pre1.length + [c].length from rfl,hex,hp] at this
            exact this
      · cases ok
theorem cont_ne {p : Pc} {l : List Pc} (ok : pcsOk (p :: l) = true) : p.tx ≠ []:=by
  intro e
  simp [pcsOk,Pc.ok,e] at ok
theorem nb_of {p : Pc} {l : List Pc} {c : UInt8} (ok : pcsOk (p :: l) = true) (hc : p.tx.head? = some c) : isBlank c = false∧¬ ((c.toNat : Nat) : Int) = 37:=by
  have hall : ∀ c : UInt8,(isLetter c || isDigit c || symBytes.contains c) = true→isBlank c = false∧¬ ((c.toNat : Nat) : Int) = 37:=by
    have : ((List.range 256).all fun n => !(isLetter (UInt8.ofNat n) || isDigit (UInt8.ofNat n) || symBytes.contains (UInt8.ofNat n)) || (!isBlank (UInt8.ofNat n) && !((UInt8.ofNat n).toNat == 37))) = true:=by decide +kernel
    intro c h
    have h2:=List.all_eq_true.1 this c.toNat (by simpa using c.toNat_lt)
    rw [UInt8.ofNat_toNat,h] at h2
    simp only [Bool.not_true,Bool.false_or,Bool.and_eq_true,Bool.not_eq_true',beq_eq_false_iff_ne] at h2
    exact ⟨h2.1,by omega⟩
  apply hall
  simp only [pcsOk,Bool.and_eq_true] at ok
  obtain ⟨ok,_⟩:=ok
  obtain ⟨sp,k,w⟩:=p
  cases w with
  | nil => cases hc
  | cons d r =>
    obtain rfl : d = c:=by simpa using hc
    unfold Pc.ok at ok
    simp only at ok
    split at ok
    · simp only [Bool.and_eq_true] at ok; rw [ok.1.1.1]; rfl
    · split at ok
      · simp only [Bool.and_eq_true,List.all_cons] at ok; rw [ok.1.1.1]; simp
      · split at ok
        · cases r with
          | nil => simp only at ok; rw [ok]; simp
          | cons _ _ => cases ok
        · cases ok
structure ScS (s : ByteArray) (bx BL b1 BK : Nat) (all : List (List AV)) (H0 : AHeap) (k : Nat) (H : AHeap) (pre : List UInt8) (l : List Pc) (T : AV) (toks : List (List AV)) : Prop where
  tx : s.data.toList = pre ++ textOf l
  ok : pcsOk l = true
  hk : l.length = k
  sc : Sc0 s bx BL pre.length T toks H
  tk : toks ++ toksFrom pre.length toks.isEmpty l = all
  le : toks.length ≤ pre.length
  h1 : H.cells b1 = some [.ptr bx 0]
  hK : H.cells BK = some kindsC
  on : Only [bx] H0 H
  fp : ∀ b ∈ fpS T,H0.next + 2 ≤ b
  nx : H0.next + 2 ≤ H.next
theorem scan_ev (s : ByteArray) (hs : s.size ≤ 16384) (bx BL : Nat) (H : AHeap) (hx : H.cells bx = some [.sc (.str s),.sc (.int .i64 0),.slice BL 0 1 1 1,.sc .nils,.sc (.int .i64 0),.sc (.int .i64 0)]) (hb : H.cells BL = some [.sc (.int .i64 0)]) (hn : bx ≠ BL)
    (l : List Pc) (hl : s.data.toList = textOf l) (hok : pcsOk l = true) :
    Ev prog polW (.call 21 [.ptr bx 0]) H fun o H' => ∃ v,o = .val v∧∃ T',H'.cells bx = some [.sc (.str s),.sc (.int .i64 (s.size : Int)),.slice BL 0 1 1 1,T',.sc (.int .i64 0),.sc (.int .i64 0)] ∧
      TokIs H' T' (toksFrom 0 true l)∧Only [bx] H H'∧∀ b ∈ fpS T',H.next ≤ b:=by
  have lx:=cells_lt hx
  have lb:=cells_lt hb
  have n1 : ¬ bx = H.next:=by omega
  have n2 : ¬ BL = H.next:=by omega
  have n3 : ¬ bx = H.next + 1:=by omega
  have n4 : ¬ BL = H.next + 1:=by omega
  refine wpF_ok ok21 ?_
  have n5 : ¬ H.next = H.next + 1:=by omega
  simp -implicitDefEqProofs (maxDischargeDepth:=12) only [wpF,cf21,WZ,seval,ev_fun,rep4]
  refine wp_loop (Inv:=fun k t H' => ∃ pre l' T toks,ScS s bx BL H.next (H.next + 1) (toksFrom 0 true l) H k H' pre l' T toks ∧
    ∃ x : Nat→AV,t = [x 0,.ptr H.next 0,.slice (H.next + 1) 0 4 4 1,x 3,x 4,x 5,x 6,x 7,x 8,x 9,x 10,x 11,x 12,x 13,x 14,x 15,x 16,x 17,x 18,x 19,x 20,x 21,x 22,x 23,x 24,x 25,x 26,x 27,x 28,x 29,x 30,x 31,x 32,x 33,x 34,x 35,x 36,x 37,x 38,x 39,x 40,x 41,x 42,x 43,x 44,x 45,x 46,x 47,x 48,x 49,x 50,x 51,x 52]) (k:=l.length) ?_ ?_
  rotate_left
  · refine ⟨[],l,.sc .nils,[],⟨by simpa using hl,hok,rfl,⟨by omega,?_,?_,⟨by simp,.inl ⟨rfl,rfl⟩⟩,hn,by simp [fpS],by simp [fpS],by simp⟩,rfl,Nat.le_refl _,?_,?_,?_,by simp [fpS],?_⟩,ex_x rfl⟩
    · simp -implicitDefEqProofs (maxDischargeDepth:=12) only [WZ,seval,hx,n1,n3,Int.cast_ofNat_Int,List.length_nil]
    · simp -implicitDefEqProofs (maxDischargeDepth:=12) only [WZ,seval,hb,n2,n4]
    · simp -implicitDefEqProofs (maxDischargeDepth:=12) only [WZ,seval,n5]
    · simp -implicitDefEqProofs (maxDischargeDepth:=12) only [WZ,seval,kindsC]
    · (repeat (first | exact Only.refl | refine Only.put ?_ (by first | (right; omega) | (left; exact List.mem_cons_self ..) | (left; simp [fpS])) | refine Only.alloc ?_))
    · simp
  rintro k t H1 ⟨pre,l',T,toks,hS,x,rfl⟩
  have hx1:=hS.sc.hx
  have h1:=hS.h1
  have hsz : pre.length ≤ s.size:=by rw [ba_size,hS.tx,List.length_append]; omega
  simp -implicitDefEqProofs (maxDischargeDepth:=12) only [WZ,seval,h1,hx1]
  cases l' with
  | nil =>
    have hend : pre.length = s.size:=by rw [ba_size,hS.tx]; simp [textOf]
    have hno : s[pre.length]? = none:=getElem?_neg s _ (by omega)
    refine wA_call rfl ((skip_ev s hS.sc.hs bx _ T _ rfl (by obtain ⟨_,⟨_,rfl⟩ | ⟨_,_,rfl,_⟩⟩:=hS.sc.hT <;> rfl) rfl pre.length pre.length (Nat.le_refl _) hsz (fun i h2 h3 => by omega) (fun c hc => by rw [hno] at hc; cases hc) H1 hx1).mono ?_)
    rintro o H2 ⟨v,rfl,rfl,hx2,ho2,hn2⟩
    have hS2:=hS.sc.at ho2 hx2
    have hx3:=hS2.hx
    have l1:=cells_lt h1
    have nb : ¬ H.next = bx:=by omega
    have h12 : H2.cells H.next = some [.ptr bx 0]:=by rw [ho2.cells _ l1 (by simp; omega)]; exact h1
    have lx2:=cells_lt hx3
    have l12:=cells_lt h12
    have m1 : ¬ H.next = H2.next:=by omega
    have m2 : ¬ bx = H2.next:=by omega
    refine ⟨_,rfl,fun c hc => by simp at hc,?_⟩
    simp -implicitDefEqProofs (maxDischargeDepth:=12) only [WZ,seval,h12,hx3,m1,m2,hend,Nat.lt_irrefl]
    have ho3 : Only [] H2 ((H2.alloc (.cells [.sc (.bool false)])).put H2.next (some (.cells [.sc (.bool true)]))):=by (repeat (first | exact Only.refl | refine Only.put ?_ (by first | (right; omega) | (left; exact List.mem_cons_self ..) | (left; simp [fpS])) | refine Only.alloc ?_))
    have hS3:=hS2.only ho3 (by simp) (by simp) (by simp)
    rw [hend] at hS3
    refine wA_call rfl ((add_ev s hS3.hs bx BL s.size s.size (Nat.le_refl _) (Nat.le_refl _) T 0 0 ⟨#[]⟩ true toks _ hS3.hx hS3.hb hS3.hT hS3.hn hS3.hf1 hS3.hf2 hS3.hl).mono ?_)
    rintro o H4 ⟨v,rfl,T',g1,g2,g3,g4⟩
    refine ⟨_,rfl,fun c hc => by simp at hc,?_⟩
    simp -implicitDefEqProofs (maxDischargeDepth:=12) only [WZ,seval,cr_nil]
    have hx : s.extract s.size s.size = ba []:=by
      have:=ba_extract (s:=s) (pre:=pre) (tx:=[]) (post:=[]) (by rw [hS.tx]; simp [textOf])
      rw [hend] at this; exact this
    have htk : toks ++ [tokN 0 (s.extract s.size s.size) 0 ⟨#[]⟩ (s.size + 1) (true && !toks.isEmpty)] = toksFrom 0 true l:=by
      rw [← hS.tk,hend,hx]; rfl
    rw [htk] at g2
    have hnx:=hS.nx
    have hon:=hS.on.next
    have on3:=((hS.on.then ho2 (fun b hb => .inl hb)).then ho3 (fun b hb => by cases hb))
    refine ⟨T',g1,g2,on3.then g3 (fun b hb => ?_),fun b hb => ?_⟩
    · rcases List.mem_cons.1 hb with rfl | hb
      · left; simp
      · right; have:=hS.fp b hb; omega
    · have:=g4 b hb
      have:=on3.next
      omega
  | cons p l' =>
    have htx:=hS.tx
    rw [textOf_cons] at htx
    have hne:=(cont_ne hS.ok)
    have hlen : s.size = pre.length + p.sp + p.tx.length + (textOf l').length:=by
      rw [ba_size,htx]; simp only [List.length_append,List.length_replicate]; omega
    have hpos : 0 < p.tx.length:=List.length_pos_iff.2 hne
    have hle:=hS.le
    refine wA_call rfl ((skip_ev s hS.sc.hs bx _ T _ rfl (by obtain ⟨_,⟨_,rfl⟩ | ⟨_,_,rfl,_⟩⟩:=hS.sc.hT <;> rfl) rfl pre.length (pre.length + p.sp) (by omega) (by omega) (fun i h2 h3 => by
        obtain ⟨d,hd,hm⟩:=get_mid (s:=s) (pre:=pre) (tx:=List.replicate p.sp 32) (post:=p.tx ++ textOf l') htx h2 (by simpa using h3)
        rw [hd,(List.mem_replicate.1 hm).2])
      (fun c hc => nb_of hS.ok (by
        have:=get_end (s:=s) (pre:=pre) (tx:=List.replicate p.sp 32) (post:=p.tx ++ textOf l') htx
        rw [List.length_replicate,hc] at this
        cases hq : p.tx with
        | nil => exact absurd hq hne
        | cons d r => rw [hq] at this; simpa using this.symm)) H1 hx1).mono ?_)
    rintro o H2 ⟨v,rfl,rfl,hx2,ho2,hn2⟩
    have hS2:=hS.sc.at ho2 hx2
    have hx3:=hS2.hx
    have l1:=cells_lt h1
    have lK:=cells_lt hS.hK
    have nb : ¬ H.next = bx:=by omega
    have h12 : H2.cells H.next = some [.ptr bx 0]:=by rw [ho2.cells _ l1 (by simp; omega)]; exact h1
    have hK2 : H2.cells (H.next + 1) = some kindsC:=by rw [ho2.cells _ lK (by simp; omega)]; exact hS.hK
    have lx2:=cells_lt hx3
    have l12:=cells_lt h12
    have lK2:=cells_lt hK2
    have m1 : ¬ H.next = H2.next:=by omega
    have m2 : ¬ bx = H2.next:=by omega
    have m3 : ¬ ((pre.length + p.sp : Nat) : Int) = (s.size : Int):=by omega
    have m4 : ¬ ((toks.length : Nat) : Int) = 262144:=by omega
    have hj : (!decide (pre.length < pre.length + p.sp)) = decide (p.sp = 0):=by
      by_cases q : p.sp = 0 <;> simp [q] <;> omega
    refine ⟨_,rfl,fun c hc => by simp at hc,?_⟩
    simp -implicitDefEqProofs (maxDischargeDepth:=12) only [WZ,seval,h12,hx3,m1,m2,m3,m4,hS2.hT.len,hj]
    have ho3 : Only [] H2 ((H2.alloc (.cells [.sc (.bool false)])).put H2.next (some (.cells [.sc (.bool (decide (p.sp = 0)))]))):=by (repeat (first | exact Only.refl | refine Only.put ?_ (by first | (right; omega) | (left; exact List.mem_cons_self ..) | (left; simp [fpS])) | refine Only.alloc ?_))
    have hS3:=hS2.only ho3 (by simp) (by simp) (by simp)
    have h13:=(ho3.cells _ l12 (by simp)).trans h12
    have hK3:=(ho3.cells _ lK2 (by simp)).trans hK2
    refine wA_call rfl ((cont_ev hS.tx hS.ok hS3 hK3 h13 (by simp -implicitDefEqProofs (maxDischargeDepth:=12) only [WZ,seval])).2.mono ?_)
    rintro o H5 ⟨v,rfl,rfl,T',g1,g2,g3,g4⟩
    refine ⟨_,rfl,fun c hc => by simp at hc,?_⟩
    simp -implicitDefEqProofs (maxDischargeDepth:=12) only [WZ,seval]
    have hnx:=hS.nx
    have hon:=hS.on.next
    have on3:=((hS.on.then ho2 (fun b hb => .inl hb)).then ho3 (fun b hb => by cases hb))
    have lb3:=cells_lt hS3.hb
    have l13:=cells_lt h13
    have lK3:=cells_lt hK3
    have hk:=hS.hk
    rw [List.length_cons] at hk
    have hpl : (pre ++ (List.replicate p.sp 32 ++ p.tx)).length = pre.length + p.sp + p.tx.length:=by simp; omega
    have hnf : ∀ b,b < H.next + 2→b ≠ bx→b ∉ bx :: fpS T:=fun b hb he hm => by
      rcases List.mem_cons.1 hm with e | hm
      · exact he e
      · have:=hS.fp b hm; omega
    have lx3:=cells_lt hS3.hx
    have on3n:=on3.next
    refine ⟨l'.length,by omega,pre ++ (List.replicate p.sp 32 ++ p.tx),l',T',toks ++ [p.tok pre.length toks.isEmpty],⟨by rw [htx]; simp,?_,rfl,⟨hS3.hs,by rw [hpl]; exact g1,(g3.cells _ lb3 (hnf _ (by omega) (fun e => hn e.symm))).trans hS3.hb,g2,hn,fun hm => by have:=g4 _ hm; omega,fun hm => by have:=g4 _ hm; omega,by rw [List.length_append]; simp; omega⟩,?_,?_,(g3.cells _ l13 (hnf _ (by omega) nb)).trans h13,(g3.cells _ lK3 (hnf _ (by omega) (by omega))).trans hK3,?_,fun b hb => ?_,?_⟩,ex_x rfl⟩
    · have:=hS.ok; simp only [pcsOk,Bool.and_eq_true] at this; exact this.2
    · rw [← hS.tk,hpl,List.append_assoc]
      have e1 : (toks ++ [p.tok pre.length toks.isEmpty]).isEmpty = false:=by cases toks <;> rfl
      have e2 : p.bytes.length = p.sp + p.tx.length:=by simp [Pc.bytes]
      rw [e1,toksFrom,e2,Nat.add_assoc]; rfl
    · rw [hpl,List.length_append]; simp; omega
    · exact on3.then g3 (fun b hb => by
        rcases List.mem_cons.1 hb with rfl | hb
        · left; simp
        · right; have:=hS.fp b hb; omega)
    · have:=g4 b hb; omega
    · have:=g3.next; omega
end Go.Hem
namespace Go.Hem
theorem no_nl : ∀ (l : List Pc),pcsOk l = true→∀ c ∈ textOf l,¬ ((c.toNat : Nat) : Int) = 10
  | [],_,c,h => by simp [textOf] at h
  | p :: l,ok,c,h => by
    rw [textOf_cons,List.mem_append,List.mem_append] at h
    have ok':=ok
    simp only [pcsOk,Bool.and_eq_true] at ok
    obtain ⟨ok1,ok2⟩:=ok
    rcases h with h | h | h
    · rw [(List.mem_replicate.1 h).2]; decide
    · have hall : ∀ c : UInt8,(isInW c || isDigit c || symBytes.contains c) = true→¬ ((c.toNat : Nat) : Int) = 10:=by
        have : ((List.range 256).all fun n => !(isInW (UInt8.ofNat n) || isDigit (UInt8.ofNat n) || symBytes.contains (UInt8.ofNat n)) || !((UInt8.ofNat n).toNat == 10)) = true:=by decide +kernel
        intro c h
        have h2:=List.all_eq_true.1 this c.toNat (by simpa using c.toNat_lt)
        rw [UInt8.ofNat_toNat,h] at h2
        simp only [Bool.not_true,Bool.false_or,Bool.not_eq_true',beq_eq_false_iff_ne] at h2
        omega
      apply hall
      obtain ⟨sp,k,w⟩:=p
      unfold Pc.ok at ok1
      simp only at ok1 h
      split at ok1
      · cases w with
        | nil => cases h
        | cons d r =>
          simp only [Bool.and_eq_true] at ok1
          rcases List.mem_cons.1 h with rfl | h
          · unfold isInW; rw [ok1.1.1.1]; rfl
          · rw [List.all_eq_true.1 ok1.1.1.2 c h]; rfl
      · split at ok1
        · cases w with
          | nil => cases h
          | cons d r =>
            simp only [Bool.and_eq_true] at ok1
            rw [List.all_eq_true.1 ok1.1.1 c h]; simp
        · split at ok1
          · cases w with
            | nil => cases h
            | cons d r =>
              cases r with
              | nil => obtain rfl : c = d:=by simpa using h
                       simp only at ok1; rw [ok1]; simp
              | cons _ _ => cases ok1
          · cases ok1
    · exact no_nl l ok2 c h
theorem Scan_ev (s : ByteArray) (hs : s.size ≤ 16384) (l : List Pc) (hl : s.data.toList = textOf l) (hok : pcsOk l = true) (H : AHeap) :
    Ev prog polW (.call 13 [.sc (.str s)]) H fun o H' => ∃ v,o = .val v∧∃ B,v = .tup [.slice B 0 (l.length + 1) (l.length + 1) 7,.sc (.int .i64 0),.sc (.int .i64 0),.sc (.int .i64 0)] ∧
      H'.cells B = some (toksFrom 0 true l).flatten∧Only [] H H'∧H.next ≤ B:=by
  have c1 : ¬ (1048576 : Int) < (s.size : Int):=by omega
  have n1 : ¬ H.next = H.next + 1:=by omega
  refine wpF_ok ok13 ?_
  simp -implicitDefEqProofs (maxDischargeDepth:=12) only [wpF,cf13,WZ,seval,c1,gt_iff_lt]
  refine wp_loop (Inv:=fun k t H' => H' = (H.alloc (.cells [.sc (.int .i64 0)])).alloc (.cells [.sc (.str s),.sc (.int .i64 0),.slice H.next 0 1 1 1,.sc .nils,.sc (.int .i64 0),.sc (.int .i64 0)]) ∧
    ∃ i : Nat,i + k = s.size∧∃ x : Nat→AV,t = [.sc (.str s),x 1,x 2,x 3,x 4,x 5,.ptr (H.next + 1) 0,x 7,x 8,x 9,x 10,x 11,x 12,x 13,x 14,x 15,.sc (.int .i64 (s.size : Int)),.sc (.int .i64 (i : Int)),x 18,x 19,x 20,x 21,x 22,x 23,x 24,x 25,x 26,x 27,x 28,x 29,x 30,x 31,x 32,x 33,x 34,x 35,x 36,x 37,x 38,x 39,x 40,x 41,x 42,x 43,x 44,x 45,x 46,x 47,x 48,x 49,x 50,x 51,x 52,x 53,x 54,x 55,x 56,x 57,x 58,x 59,x 60,x 61]) (k:=s.size) ?_ ⟨rfl,0,by omega,ex_x rfl⟩
  rintro k t H' ⟨rfl,i,hk,x,rfl⟩
  by_cases c0 : i < s.size
  · have c2 : (i : Int) < (s.size : Int):=by omega
    obtain ⟨d,hd,hm⟩:=get_mid (s:=s) (pre:=[]) (tx:=textOf l) (post:=[]) (by rw [hl]; simp) (i:=i) (by simp) (by rw [← hl,← ba_size]; simpa using c0)
    have hnl:=no_nl l hok d hm
    simp -implicitDefEqProofs (maxDischargeDepth:=12) only [WZ,seval,c2,e_strAt,hd,hnl,wrap1 c0 (show s.size < 2 ^ 31 by omega)]
    exact ⟨k - 1,by omega,i + 1,by omega,ex_x rfl⟩
  · have c2 : ¬ (i : Int) < (s.size : Int):=by omega
    simp -implicitDefEqProofs (maxDischargeDepth:=12) only [WZ,seval,c2]
    refine wA_call rfl ((scan_ev s hs (H.next + 1) H.next _ (by simp -implicitDefEqProofs (maxDischargeDepth:=12) only [WZ,seval]) (by simp -implicitDefEqProofs (maxDischargeDepth:=12) only [WZ,seval,n1]) (by omega) l hl hok).mono ?_)
    rintro o H1 ⟨v,rfl,T',g1,g2,g3,g4⟩
    refine ⟨_,rfl,fun c hc => by simp at hc,?_⟩
    simp -implicitDefEqProofs (maxDischargeDepth:=12) only [WZ,seval,g1]
    obtain ⟨h7,⟨e,rfl⟩ | ⟨hne,B,rfl,hB⟩⟩:=g2
    · have:=toksFrom_length l 0 true; rw [e] at this; simp at this
    · have g5:=g4 B (by simp [fpS])
      simp only [AHeap.next_alloc] at g5
      refine ⟨_,rfl,B,by rw [toksFrom_length]; rfl,hB,?_,by omega⟩
      exact (show Only [] H _ from Only.refl.alloc.alloc).then g3 (fun b hb => by simp at hb; right; omega)
end Go.Hem
namespace Go.Hem
structure TkD where
  k : Int
  tx : ByteArray
  v : Int
  col : Int
  j : Bool
def TkD.cells (t : TkD) : List AV:=[.sc (.int .i64 t.k),.sc (.str t.tx),.sc (.int .i64 t.v),.sc (.str ⟨#[]⟩),.sc (.int .i64 1),.sc (.int .i64 t.col),.sc (.bool t.j)]
theorem TkD.len (t : TkD) : t.cells.length = 7:=rfl
theorem flatTk (l : List TkD) : (l.flatMap TkD.cells).length = l.length * 7:=by
  induction l with
  | nil => rfl
  | cons a l ih => rw [List.flatMap_cons,List.length_append,a.len,ih,List.length_cons]; omega
theorem drop_some {α : Type} {l : List α} {i : Nat} {b : α} (h : l[i]? = some b) : l.drop i = b :: l.drop (i + 1):=by
  obtain ⟨hi,rfl⟩:=List.getElem?_eq_some_iff.1 h
  exact List.drop_eq_getElem_cons hi
theorem cutTk {l : List TkD} {i : Nat} {t : TkD} (h : l[i]? = some t) : i * 7 + 7 ≤ (l.flatMap TkD.cells).length∧((l.flatMap TkD.cells).drop (i * 7)).take 7 = t.cells:=by
  have hi : i < l.length:=(List.getElem?_eq_some_iff.1 h).1
  have e : (l.flatMap TkD.cells).drop (i * 7) = t.cells ++ (l.drop (i + 1)).flatMap TkD.cells:=by
    have : l = l.take i ++ t :: l.drop (i + 1):=by
      rw [← drop_some h,List.take_append_drop]
    conv => lhs; rw [this]
    rw [List.flatMap_append,List.drop_append,flatTk,List.length_take,Nat.min_eq_left (Nat.le_of_lt hi),Nat.sub_self,List.drop_zero,List.flatMap_cons]
    rw [List.drop_of_length_le (by rw [flatTk,List.length_take]; omega),List.nil_append]
  refine ⟨by rw [flatTk]; omega,?_⟩
  rw [e]; rfl
def isB (t : TkD) (s : ByteArray) : Bool:=(decide (t.k = 1) || decide (t.k = 4)) && (t.tx.toList == s.toList)
structure PSt (p BT : Nat) (toks : List TkD) (at_ : Nat) (N L : Int) (SC KW : AV) (H : AHeap) : Prop where
  cells : H.cells p = some [.slice BT 0 toks.length toks.length 7,.sc (.int .i64 (at_ : Int)),.sc (.int .i64 N),.sc (.int .i64 L),SC,KW,.sc (.int .i64 0),.sc (.int .i64 0),.sc (.int .i64 0)]
  tb : H.cells BT = some (toks.flatMap TkD.cells)
  ne : p ≠ BT
  sm : toks.length < 2 ^ 20
theorem PSt.only {p BT : Nat} {toks : List TkD} {at_ : Nat} {N L : Int} {SC KW : AV} {H H' : AHeap} {bs : List Nat} (h : PSt p BT toks at_ N L SC KW H) (o : Only bs H H') (h1 : p ∉ bs) (h2 : BT ∉ bs) : PSt p BT toks at_ N L SC KW H' :=
  ⟨by rw [o.cells p (cells_lt h.cells) h1]; exact h.cells,by rw [o.cells BT (cells_lt h.tb) h2]; exact h.tb,h.ne,h.sm⟩
section
variable {p BT : Nat} {toks : List TkD} {at_ : Nat} {N L : Int} {SC KW : AV} {H : AHeap} (h : PSt p BT toks at_ N L SC KW H) {tk : TkD} (ht : toks[at_]? = some tk)
include h ht
theorem peek_ev : Ev prog polW (.call 15 [.ptr p 0]) H fun o H' => ∃ v,o = .val v∧v = .agg tk.cells∧Only [] H H':=by
  have hp:=h.cells
  have hb:=h.tb
  have lp:=cells_lt hp
  have lb:=cells_lt hb
  have n1 : ¬ p = H.next:=by omega
  have n2 : ¬ BT = H.next:=by omega
  have hi : at_ < toks.length:=(List.getElem?_eq_some_iff.1 ht).1
  obtain ⟨hc1,hc2⟩:=cutTk ht
  refine wpF_ok ok15 ?_
  simp -implicitDefEqProofs (maxDischargeDepth:=12) only [wpF,cf15,WZ,seval,hp,hb,n1,n2,hi,hc1,hc2,TkD.cells]
  (repeat (first | exact Only.refl | refine Only.put ?_ (by first | (right; omega) | (left; exact List.mem_cons_self ..) | (left; simp [fpS])) | refine Only.alloc ?_))
theorem is_ev (s : ByteArray) : Ev prog polW (.call 60 [.ptr p 0,.sc (.str s)]) H fun o H' => ∃ v,o = .val v∧v = .sc (.bool (isB tk s))∧Only [] H H':=by
  generalize hr : isB tk s = r
  unfold isB at hr
  refine wpF_ok ok60 ?_
  simp -implicitDefEqProofs (maxDischargeDepth:=12) only [wpF,cf60,WZ,seval]
  refine wA_call rfl ((peek_ev h ht).mono ?_)
  rintro o H1 ⟨v,rfl,rfl,ho⟩
  refine ⟨_,rfl,fun c hc => by simp at hc,?_⟩
  by_cases c1 : tk.k = 1
  · simp only [c1,decide_true,Bool.true_or,Bool.true_and] at hr
    simp -implicitDefEqProofs (maxDischargeDepth:=12) only [WZ,seval,TkD.cells,c1,hr]
    exact ho.then (show Only [] H1 _ from by (repeat (first | exact Only.refl | refine Only.put ?_ (by first | (right; omega) | (left; exact List.mem_cons_self ..) | (left; simp [fpS])) | refine Only.alloc ?_))) (fun b hb => by cases hb)
  · by_cases c4 : tk.k = 4
    · simp only [c4,decide_true,Bool.or_true,Bool.true_and] at hr
      simp -implicitDefEqProofs (maxDischargeDepth:=12) only [WZ,seval,TkD.cells,c1,c4,hr,show ¬ (4 : Int) = 1 by decide]
      exact ho.then (show Only [] H1 _ from by (repeat (first | exact Only.refl | refine Only.put ?_ (by first | (right; omega) | (left; exact List.mem_cons_self ..) | (left; simp [fpS])) | refine Only.alloc ?_))) (fun b hb => by cases hb)
    · simp only [c1,c4,decide_false,Bool.or_self,Bool.false_and] at hr
      subst hr
      simp -implicitDefEqProofs (maxDischargeDepth:=12) only [WZ,seval,TkD.cells,c1,c4]
      exact ho.then (show Only [] H1 _ from by (repeat (first | exact Only.refl | refine Only.put ?_ (by first | (right; omega) | (left; exact List.mem_cons_self ..) | (left; simp [fpS])) | refine Only.alloc ?_))) (fun b hb => by cases hb)
theorem wrapA : IntKind.i64.wrap ((at_ : Int) + 1) = ((at_ + 1 : Nat) : Int):=by
  have hi : at_ < toks.length:=(List.getElem?_eq_some_iff.1 ht).1
  have:=h.sm
  rw [w64 (by omega) (by omega)]; omega
theorem accept_ev (s : ByteArray) : Ev prog polW (.call 24 [.ptr p 0,.sc (.str s)]) H fun o H' => ∃ v,o = .val v∧v = .sc (.bool (isB tk s))∧PSt p BT toks (if isB tk s = true then at_ + 1 else at_) N L SC KW H'∧Only [p] H H':=by
  refine wpF_ok ok24 ?_
  simp -implicitDefEqProofs (maxDischargeDepth:=12) only [wpF,cf24,WZ,seval]
  refine wA_call rfl ((is_ev h ht s).mono ?_)
  rintro o H1 ⟨v,rfl,rfl,ho⟩
  refine ⟨_,rfl,fun c hc => by simp at hc,?_⟩
  have h1:=h.only ho (by simp) (by simp)
  have hw:=wrapA h ht
  have hp:=h1.cells
  have hb:=h1.tb
  cases q : isB tk s with
  | false =>
    simp -implicitDefEqProofs (maxDischargeDepth:=12) only [WZ,seval]
    exact ⟨h1,ho.mono (fun b hb => by cases hb)⟩
  | true =>
    simp -implicitDefEqProofs (maxDischargeDepth:=12) only [WZ,seval,hp,hw]
    refine ⟨⟨by simp -implicitDefEqProofs (maxDischargeDepth:=12) only [WZ,seval,hp],?_,h1.ne,h1.sm⟩,?_⟩
    · have : ¬ BT = p:=fun e => h1.ne e.symm
      simp -implicitDefEqProofs (maxDischargeDepth:=12) only [WZ,seval,hp,this,hb]
    · exact (show Only [p] H H1 from ho.mono (fun b hb => by cases hb)).then (show Only [p] H1 _ from by (repeat (first | exact Only.refl | refine Only.put ?_ (by first | (right; omega) | (left; exact List.mem_cons_self ..) | (left; simp [fpS])) | refine Only.alloc ?_))) (fun b hb => .inl hb)
theorem expect_ev (s : ByteArray) (hs : isB tk s = true) : Ev prog polW (.call 33 [.ptr p 0,.sc (.str s)]) H fun o H' => ∃ v,o = .val v∧v = .tup []∧PSt p BT toks (at_ + 1) N L SC KW H'∧Only [p] H H':=by
  refine wpF_ok ok33 ?_
  simp -implicitDefEqProofs (maxDischargeDepth:=12) only [wpF,cf33,WZ,seval]
  refine wA_call rfl ((accept_ev h ht s).mono ?_)
  rintro o H1 ⟨v,rfl,rfl,h1,ho⟩
  refine ⟨_,rfl,fun c hc => by simp at hc,?_⟩
  rw [hs] at h1
  simp -implicitDefEqProofs (maxDischargeDepth:=12) only [WZ,seval,hs,cr_nil]
  exact ⟨h1,ho⟩
theorem number_ev (lo hi : Int) (hk : tk.k = 2) (h1 : ¬ tk.v < lo) (h2 : ¬ hi < tk.v) : Ev prog polW (.call 141 [.ptr p 0,.sc (.int .i64 lo),.sc (.int .i64 hi)]) H fun o H' => ∃ v,o = .val v∧v = .sc (.int .i64 tk.v)∧PSt p BT toks (at_ + 1) N L SC KW H'∧Only [p] H H':=by
  refine wpF_ok ok141 ?_
  simp -implicitDefEqProofs (maxDischargeDepth:=12) only [wpF,cf141,WZ,seval]
  refine wA_call rfl ((peek_ev h ht).mono ?_)
  rintro o H1 ⟨v,rfl,rfl,ho⟩
  refine ⟨_,rfl,fun c hc => by simp at hc,?_⟩
  have g1:=h.only ho (by simp) (by simp)
  have hw:=wrapA h ht
  have hp:=g1.cells
  have hb:=g1.tb
  have lp:=cells_lt hp
  have lb:=cells_lt hb
  have n1 : ¬ p = H1.next:=by omega
  have n2 : ¬ BT = H1.next:=by omega
  have n3 : ¬ BT = p:=fun e => g1.ne e.symm
  have n4 : ¬ H1.next = p:=by omega
  simp -implicitDefEqProofs (maxDischargeDepth:=12) only [WZ,seval,TkD.cells,hk,h1,h2,hp,hw,n1,n2,n3,n4,gt_iff_lt]
  refine ⟨⟨by simp -implicitDefEqProofs (maxDischargeDepth:=12) only [WZ,seval,hp,n1],by simp -implicitDefEqProofs (maxDischargeDepth:=12) only [WZ,seval,hp,hb,n1,n2,n3],g1.ne,g1.sm⟩,?_⟩
  exact (show Only [p] H H1 from ho.mono (fun b hb => by cases hb)).then (show Only [p] H1 _ from by (repeat (first | exact Only.refl | refine Only.put ?_ (by first | (right; omega) | (left; exact List.mem_cons_self ..) | (left; simp [fpS])) | refine Only.alloc ?_))) (fun b hb => .inl hb)
end
end Go.Hem
namespace Go.Hem
def wmap (l : List ByteArray) : List (AV × AV):=l.map fun w => (.sc (.str w),.sc (.bool true))
def inB (l : List ByteArray) (a : ByteArray) : Bool:=l.any fun w => a.toList == w.toList
theorem keyW (a b : ByteArray) : keyEq false [.str] (.sc (.str a)) (.sc (.str b)) = some (a.toList == b.toList):=by
  simp [keyEq,eqK]
theorem findW (a : ByteArray) : ∀ (l : List ByteArray) (i : Nat),(afind false [.str] (.sc (.str a)) (wmap l) i).map (fun r => match r with | some r => r.2 | none => AV.sc (.bool false)) = some (.sc (.bool (inB l a)))∧(inB l a = false→afind false [.str] (.sc (.str a)) (wmap l) i = some none)
  | [],i => ⟨rfl,fun _ => rfl⟩
  | w :: l,i => by
    have ih:=findW a l (i + 1)
    simp only [wmap,List.map_cons,afind,keyW]
    cases q : a.toList == w.toList with
    | true => simp [inB,q]
    | false => simp only [inB,List.any_cons,q,Bool.false_or]; exact ih
theorem putW {H : AHeap} {b : Nat} {l : List ByteArray} (h : H.map b = some (wmap l)) {a : ByteArray} (ha : inB l a = false) : putIn H false [.str] (.map b) (.sc (.str a)) (.sc (.bool true)) = some (.memM (.sc .undef) b (wmap (l ++ [a]))):=by
  unfold putIn
  rw [keyW,if_pos (by simp)]
  simp only [h,Option.bind_some,(findW a l 0).2 ha,Option.map_some]
  simp [wmap]
theorem map_lt {H : AHeap} {b : Nat} {es : List (AV × AV)} (h : H.map b = some es) : b < H.next:=by
  unfold AHeap.map at h
  cases q : H.get b with
  | none => rw [q] at h; cases h
  | some x => exact AHeap.get_lt q
theorem map_cells {H : AHeap} {b : Nat} {es : List (AV × AV)} (h : H.map b = some es) : H.cells b = none:=by
  unfold AHeap.map at h; unfold AHeap.cells
  cases q : H.get b with
  | none => rfl
  | some x => rw [q] at h; cases x <;> simp_all
structure PEn (p bk bsc b0 : Nat) (kws vars : List ByteArray) (H : AHeap) : Prop where
  mw : H.map bk = some (wmap kws)
  sc : H.cells bsc = some [.map b0]
  m0 : H.map b0 = some (wmap vars)
  ne : bk ≠ b0
  n1 : bk ≠ p
  n2 : bsc ≠ p
  n3 : b0 ≠ p
theorem PEn.only {p bk bsc b0 : Nat} {kws vars : List ByteArray} {H H' : AHeap} {bs : List Nat} (h : PEn p bk bsc b0 kws vars H) (o : Only bs H H') (h1 : bk ∉ bs) (h2 : bsc ∉ bs) (h3 : b0 ∉ bs) : PEn p bk bsc b0 kws vars H' :=
  ⟨by rw [o.map bk (map_lt h.mw) h1]; exact h.mw,by rw [o.cells bsc (cells_lt h.sc) h2]; exact h.sc,by rw [o.map b0 (map_lt h.m0) h3]; exact h.m0,h.ne,h.n1,h.n2,h.n3⟩
theorem PEn.p {p bk bsc b0 : Nat} {kws vars : List ByteArray} {H H' : AHeap} (h : PEn p bk bsc b0 kws vars H) (o : Only [p] H H') : PEn p bk bsc b0 kws vars H' :=
  h.only o (by simp; exact h.n1) (by simp; exact h.n2) (by simp; exact h.n3)
section
variable {p BT : Nat} {toks : List TkD} {at_ : Nat} {N L : Int} {bk bsc b0 : Nat} {kws vars : List ByteArray} {H : AHeap} (h : PSt p BT toks at_ N L (.slice bsc 0 1 1 1) (.map bk) H) (e : PEn p bk bsc b0 kws vars H)
include h e
end
end Go.Hem
namespace Go.Hem
def Lv (f : FuncId) (p BT : Nat) (toks : List TkD) (N L : Int) (bk bsc b0 : Nat) (kws vars : List ByteArray) (i j : Nat) (Q : Nat→AV→AHeap→Prop) : Prop :=
  ∀ H,PSt p BT toks i N L (.slice bsc 0 1 1 1) (.map bk) H→PEn p bk bsc b0 kws vars H→Ev prog polW (.call f [.ptr p 0]) H fun o H' => ∃ v,o = .val v∧AV.one v = true∧v.cells = [v] ∧
    PSt p BT toks j N L (.slice bsc 0 1 1 1) (.map bk) H'∧PEn p bk bsc b0 kws vars H'∧Only [p] H H'∧Q H.next v H'
structure QOk (Q : Nat→AV→AHeap→Prop) : Prop where
  keep : ∀ n v H H' bs,Q n v H→Only bs H H'→(∀ b ∈ bs,b < n)→Q n v H'
  mono : ∀ m n v H,Q n v H→m ≤ n→Q m v H
section
variable {p BT : Nat} {toks : List TkD} {N L : Int} {bk bsc b0 : Nat} {kws vars : List ByteArray} {i j : Nat} {Q : Nat→AV→AHeap→Prop}
theorem acc_no {H : AHeap} {t : TkD} (h : PSt p BT toks i N L (.slice bsc 0 1 1 1) (.map bk) H) (e : PEn p bk bsc b0 kws vars H) (ht : toks[i]? = some t) (s : ByteArray) (hs : isB t s = false) :
    Ev prog polW (.call 24 [.ptr p 0,.sc (.str s)]) H fun o H' => ∃ v,o = .val v∧v = .sc (.bool false)∧PSt p BT toks i N L (.slice bsc 0 1 1 1) (.map bk) H'∧PEn p bk bsc b0 kws vars H'∧Only [p] H H' :=
  (accept_ev h ht s).mono fun o H' ⟨v,h1,h2,h3,h4⟩ => ⟨v,h1,by rw [h2,hs],by rw [hs] at h3; simpa using h3,e.p h4,h4⟩
theorem acc_yes {H : AHeap} {t : TkD} (h : PSt p BT toks i N L (.slice bsc 0 1 1 1) (.map bk) H) (e : PEn p bk bsc b0 kws vars H) (ht : toks[i]? = some t) (s : ByteArray) (hs : isB t s = true) :
    Ev prog polW (.call 24 [.ptr p 0,.sc (.str s)]) H fun o H' => ∃ v,o = .val v∧v = .sc (.bool true)∧PSt p BT toks (i + 1) N L (.slice bsc 0 1 1 1) (.map bk) H'∧PEn p bk bsc b0 kws vars H'∧Only [p] H H' :=
  (accept_ev h ht s).mono fun o H' ⟨v,h1,h2,h3,h4⟩ => ⟨v,h1,by rw [h2,hs],by rw [hs] at h3; simpa using h3,e.p h4,h4⟩
theorem unary_lv {t : TkD} (ht : toks[i]? = some t) (h1 : isB t ⟨#[45]⟩ = false) (hQ : QOk Q) (k : Lv 510 p BT toks N L bk bsc b0 kws vars i j Q) : Lv 458 p BT toks N L bk bsc b0 kws vars i j Q:=by
  intro H h e
  refine wpF_ok ok458 ?_
  simp -implicitDefEqProofs (maxDischargeDepth:=12) only [wpF,cf458,WZ,seval]
  refine wA_call rfl ((acc_no h e ht _ h1).mono ?_)
  rintro o H1 ⟨v,rfl,rfl,hH1,eH1,oH1⟩
  refine ⟨_,rfl,fun c hc => by simp at hc,?_⟩
  simp -implicitDefEqProofs (maxDischargeDepth:=12) only [WI,seval]
  refine wA_call rfl ((k _ hH1 eH1).mono ?_)
  rintro o H2 ⟨w,rfl,h1H2,hcH2,hH2,eH2,oH2,qH2⟩
  refine ⟨_,rfl,fun c hc => by simp at hc,?_⟩
  simp -implicitDefEqProofs (maxDischargeDepth:=12) only [WI,seval,h1H2,hcH2]
  exact ⟨hH2,eH2,oH1.trans oH2,hQ.mono _ _ _ _ qH2 oH1.next⟩
theorem product_lv {t : TkD} (k : Lv 458 p BT toks N L bk bsc b0 kws vars i j Q) (ht : toks[j]? = some t) (h1 : isB t ⟨#[42]⟩ = false) (h2 : isB t ⟨#[47]⟩ = false) (h3 : isB t ⟨#[92]⟩ = false)
    (hQ : QOk Q) : Lv 401 p BT toks N L bk bsc b0 kws vars i j Q:=by
  intro H h e
  refine wpF_ok ok401 ?_
  simp -implicitDefEqProofs (maxDischargeDepth:=12) only [wpF,cf401,WZ,seval]
  refine wA_call rfl ((k _ h e).mono ?_)
  rintro o H1 ⟨w,rfl,h1H1,hcH1,hH1,eH1,oH1,qH1⟩
  refine ⟨_,rfl,fun c hc => by simp at hc,?_⟩
  simp -implicitDefEqProofs (maxDischargeDepth:=12) only [WI,seval,h1H1,hcH1]
  refine wp_unroll 2 ?_
  simp -implicitDefEqProofs (maxDischargeDepth:=12) only [WZ,seval]
  refine wA_call rfl ((acc_no hH1 eH1 ht _ h1).mono ?_)
  rintro o H2 ⟨v,rfl,rfl,hH2,eH2,oH2⟩
  refine ⟨_,rfl,fun c hc => by simp at hc,?_⟩
  simp -implicitDefEqProofs (maxDischargeDepth:=12) only [WI,seval]
  refine wA_call rfl ((acc_no hH2 eH2 ht _ h2).mono ?_)
  rintro o H3 ⟨v,rfl,rfl,hH3,eH3,oH3⟩
  refine ⟨_,rfl,fun c hc => by simp at hc,?_⟩
  simp -implicitDefEqProofs (maxDischargeDepth:=12) only [WI,seval]
  refine wA_call rfl ((acc_no hH3 eH3 ht _ h3).mono ?_)
  rintro o H4 ⟨v,rfl,rfl,hH4,eH4,oH4⟩
  refine ⟨_,rfl,fun c hc => by simp at hc,?_⟩
  simp -implicitDefEqProofs (maxDischargeDepth:=12) only [WI,seval]
  exact ⟨h1H1,hcH1,hH4,eH4,((oH1.trans oH2).trans oH3).trans oH4,hQ.keep _ _ _ _ _ qH1 ((oH2.trans oH3).trans oH4) (fun b hb => by simp at hb; subst hb; exact cells_lt h.cells)⟩
theorem sum_lv {t : TkD} (k : Lv 401 p BT toks N L bk bsc b0 kws vars i j Q) (ht : toks[j]? = some t) (h1 : isB t ⟨#[43]⟩ = false) (h2 : isB t ⟨#[45]⟩ = false)
    (hQ : QOk Q) : Lv 311 p BT toks N L bk bsc b0 kws vars i j Q:=by
  intro H h e
  refine wpF_ok ok311 ?_
  simp -implicitDefEqProofs (maxDischargeDepth:=12) only [wpF,cf311,WZ,seval]
  refine wA_call rfl ((k _ h e).mono ?_)
  rintro o H1 ⟨w,rfl,h1H1,hcH1,hH1,eH1,oH1,qH1⟩
  refine ⟨_,rfl,fun c hc => by simp at hc,?_⟩
  simp -implicitDefEqProofs (maxDischargeDepth:=12) only [WI,seval,h1H1,hcH1]
  refine wp_unroll 2 ?_
  simp -implicitDefEqProofs (maxDischargeDepth:=12) only [WZ,seval]
  refine wA_call rfl ((acc_no hH1 eH1 ht _ h1).mono ?_)
  rintro o H2 ⟨v,rfl,rfl,hH2,eH2,oH2⟩
  refine ⟨_,rfl,fun c hc => by simp at hc,?_⟩
  simp -implicitDefEqProofs (maxDischargeDepth:=12) only [WI,seval]
  refine wA_call rfl ((acc_no hH2 eH2 ht _ h2).mono ?_)
  rintro o H3 ⟨v,rfl,rfl,hH3,eH3,oH3⟩
  refine ⟨_,rfl,fun c hc => by simp at hc,?_⟩
  simp -implicitDefEqProofs (maxDischargeDepth:=12) only [WI,seval]
  exact ⟨h1H1,hcH1,hH3,eH3,(oH1.trans oH2).trans oH3,hQ.keep _ _ _ _ _ qH1 (oH2.trans oH3) (fun b hb => by simp at hb; subst hb; exact cells_lt h.cells)⟩
theorem both_lv {t : TkD} (k : Lv 132 p BT toks N L bk bsc b0 kws vars i j Q) (ht : toks[j]? = some t) (h1 : isB t ⟨#[97,110,100]⟩ = false)
    (hQ : QOk Q) : Lv 63 p BT toks N L bk bsc b0 kws vars i j Q:=by
  intro H h e
  refine wpF_ok ok63 ?_
  simp -implicitDefEqProofs (maxDischargeDepth:=12) only [wpF,cf63,WZ,seval]
  refine wA_call rfl ((k _ h e).mono ?_)
  rintro o H1 ⟨w,rfl,h1H1,hcH1,hH1,eH1,oH1,qH1⟩
  refine ⟨_,rfl,fun c hc => by simp at hc,?_⟩
  simp -implicitDefEqProofs (maxDischargeDepth:=12) only [WI,seval,h1H1,hcH1]
  refine wp_unroll 2 ?_
  simp -implicitDefEqProofs (maxDischargeDepth:=12) only [WZ,seval]
  refine wA_call rfl ((acc_no hH1 eH1 ht _ h1).mono ?_)
  rintro o H2 ⟨v,rfl,rfl,hH2,eH2,oH2⟩
  refine ⟨_,rfl,fun c hc => by simp at hc,?_⟩
  simp -implicitDefEqProofs (maxDischargeDepth:=12) only [WI,seval]
  exact ⟨h1H1,hcH1,hH2,eH2,oH1.trans oH2,hQ.keep _ _ _ _ _ qH1 oH2 (fun b hb => by simp at hb; subst hb; exact cells_lt h.cells)⟩
theorem expr_lv {t : TkD} (k : Lv 63 p BT toks N L bk bsc b0 kws vars i j Q) (ht : toks[j]? = some t) (h1 : isB t ⟨#[111,114]⟩ = false)
    (hQ : QOk Q) : Lv 27 p BT toks N L bk bsc b0 kws vars i j Q:=by
  intro H h e
  refine wpF_ok ok27 ?_
  simp -implicitDefEqProofs (maxDischargeDepth:=12) only [wpF,cf27,WZ,seval]
  refine wA_call rfl ((k _ h e).mono ?_)
  rintro o H1 ⟨w,rfl,h1H1,hcH1,hH1,eH1,oH1,qH1⟩
  refine ⟨_,rfl,fun c hc => by simp at hc,?_⟩
  simp -implicitDefEqProofs (maxDischargeDepth:=12) only [WI,seval,h1H1,hcH1]
  refine wp_unroll 2 ?_
  simp -implicitDefEqProofs (maxDischargeDepth:=12) only [WZ,seval]
  refine wA_call rfl ((acc_no hH1 eH1 ht _ h1).mono ?_)
  rintro o H2 ⟨v,rfl,rfl,hH2,eH2,oH2⟩
  refine ⟨_,rfl,fun c hc => by simp at hc,?_⟩
  simp -implicitDefEqProofs (maxDischargeDepth:=12) only [WI,seval]
  exact ⟨h1H1,hcH1,hH2,eH2,oH1.trans oH2,hQ.keep _ _ _ _ _ qH1 oH2 (fun b hb => by simp at hb; subst hb; exact cells_lt h.cells)⟩
theorem negation_lv {t : TkD} (ht : toks[i]? = some t) (h1 : isB t ⟨#[110,111,116]⟩ = false) (hQ : QOk Q) (k : Lv 215 p BT toks N L bk bsc b0 kws vars i j Q) : Lv 132 p BT toks N L bk bsc b0 kws vars i j Q:=by
  intro H h e
  refine wpF_ok ok132 ?_
  simp -implicitDefEqProofs (maxDischargeDepth:=12) only [wpF,cf132,WZ,seval]
  refine wA_call rfl ((acc_no h e ht _ h1).mono ?_)
  rintro o H1 ⟨v,rfl,rfl,hH1,eH1,oH1⟩
  refine ⟨_,rfl,fun c hc => by simp at hc,?_⟩
  simp -implicitDefEqProofs (maxDischargeDepth:=12) only [WI,seval]
  refine wA_call rfl ((k _ hH1 eH1).mono ?_)
  rintro o H2 ⟨w,rfl,h1H2,hcH2,hH2,eH2,oH2,qH2⟩
  refine ⟨_,rfl,fun c hc => by simp at hc,?_⟩
  simp -implicitDefEqProofs (maxDischargeDepth:=12) only [WI,seval,h1H2,hcH2]
  exact ⟨hH2,eH2,oH1.trans oH2,hQ.mono _ _ _ _ qH2 oH1.next⟩
theorem pair_no {H : AHeap} {t : TkD} (h : PSt p BT toks i N L (.slice bsc 0 1 1 1) (.map bk) H) (e : PEn p bk bsc b0 kws vars H) (ht : toks[i]? = some t) (s s2 : ByteArray) (hs : isB t s = false) :
    Ev prog polW (.call 312 [.ptr p 0,.sc (.str s),.sc (.str s2)]) H fun o H' => ∃ v,o = .val v∧v = .sc (.bool false)∧PSt p BT toks i N L (.slice bsc 0 1 1 1) (.map bk) H'∧PEn p bk bsc b0 kws vars H'∧Only [p] H H':=by
  refine wpF_ok ok312 ?_
  simp -implicitDefEqProofs (maxDischargeDepth:=12) only [wpF,cf312,WZ,seval]
  refine wA_call rfl ((is_ev h ht s).mono ?_)
  rintro o H1 ⟨v,rfl,rfl,ho⟩
  refine ⟨_,rfl,fun c hc => by simp at hc,?_⟩
  have ho' : Only [p] H H1:=ho.mono (fun b hb => by cases hb)
  simp -implicitDefEqProofs (maxDischargeDepth:=12) only [WZ,seval,hs]
  exact ⟨h.only ho (by simp) (by simp),e.p ho',ho'⟩
theorem comparison_lv {t : TkD} (k : Lv 311 p BT toks N L bk bsc b0 kws vars i j Q) (ht : toks[j]? = some t) (h1 : isB t ⟨#[61]⟩ = false) (h2 : isB t ⟨#[33]⟩ = false) (h3 : isB t ⟨#[60]⟩ = false) (h4 : isB t ⟨#[62]⟩ = false)
    (hQ : QOk Q) : Lv 215 p BT toks N L bk bsc b0 kws vars i j Q:=by
  intro H h e
  refine wpF_ok ok215 ?_
  simp -implicitDefEqProofs (maxDischargeDepth:=12) only [wpF,cf215,WZ,seval]
  refine wA_call rfl ((k _ h e).mono ?_)
  rintro o G ⟨w,rfl,h1G,hcG,hG,eG,oG,qG⟩
  refine ⟨_,rfl,fun c hc => by simp at hc,?_⟩
  simp -implicitDefEqProofs (maxDischargeDepth:=12) only [WI,seval,h1G,hcG]
  have ho : Only [p] G (G.alloc (.cells [.sc .nilf])):=by (repeat (first | exact Only.refl | refine Only.put ?_ (by first | (right; omega) | (left; exact List.mem_cons_self ..) | (left; simp [fpS])) | refine Only.alloc ?_))
  have hG':=hG.only (show Only [] G (G.alloc (.cells [.sc .nilf])) from by (repeat (first | exact Only.refl | refine Only.put ?_ (by first | (right; omega) | (left; exact List.mem_cons_self ..) | (left; simp [fpS])) | refine Only.alloc ?_))) (by simp) (by simp)
  have eG':=eG.p ho
  refine wA_call rfl ((pair_no hG' eG' ht _ _ h1).mono ?_)
  rintro o H2 ⟨v,rfl,rfl,hH2,eH2,oH2⟩
  refine ⟨_,rfl,fun c hc => by simp at hc,?_⟩
  simp -implicitDefEqProofs (maxDischargeDepth:=12) only [WZ,seval]
  refine wA_call rfl ((pair_no hH2 eH2 ht _ _ h2).mono ?_)
  rintro o H3 ⟨v,rfl,rfl,hH3,eH3,oH3⟩
  refine ⟨_,rfl,fun c hc => by simp at hc,?_⟩
  simp -implicitDefEqProofs (maxDischargeDepth:=12) only [WZ,seval]
  refine wA_call rfl ((pair_no hH3 eH3 ht _ _ h3).mono ?_)
  rintro o H4 ⟨v,rfl,rfl,hH4,eH4,oH4⟩
  refine ⟨_,rfl,fun c hc => by simp at hc,?_⟩
  simp -implicitDefEqProofs (maxDischargeDepth:=12) only [WZ,seval]
  refine wA_call rfl ((pair_no hH4 eH4 ht _ _ h4).mono ?_)
  rintro o H5 ⟨v,rfl,rfl,hH5,eH5,oH5⟩
  refine ⟨_,rfl,fun c hc => by simp at hc,?_⟩
  simp -implicitDefEqProofs (maxDischargeDepth:=12) only [WZ,seval]
  refine wA_call rfl ((acc_no hH5 eH5 ht _ h3).mono ?_)
  rintro o H6 ⟨v,rfl,rfl,hH6,eH6,oH6⟩
  refine ⟨_,rfl,fun c hc => by simp at hc,?_⟩
  simp -implicitDefEqProofs (maxDischargeDepth:=12) only [WI,seval]
  refine wA_call rfl ((acc_no hH6 eH6 ht _ h4).mono ?_)
  rintro o H7 ⟨v,rfl,rfl,hH7,eH7,oH7⟩
  refine ⟨_,rfl,fun c hc => by simp at hc,?_⟩
  simp -implicitDefEqProofs (maxDischargeDepth:=12) only [WI,seval]
  have oo:=((((((ho.trans oH2).trans oH3).trans oH4).trans oH5).trans oH6).trans oH7)
  exact ⟨h1G,hcG,hH7,eH7,oG.trans oo,hQ.keep _ _ _ _ _ qG oo (fun b hb => by simp at hb; subst hb; exact cells_lt h.cells)⟩
end
end Go.Hem
namespace Go.Hem
def NumC (n : Int) (lo : Nat) (v : AV) (H : AHeap) : Prop:=∃ b,lo ≤ b∧v = .func (.func 551) [] [.ptr b 0]∧H.cells b = some [.sc (.int .i64 n)]
def VarC (a : ByteArray) (lo : Nat) (v : AV) (H : AHeap) : Prop:=∃ b,lo ≤ b∧v = .func (.func 555) [] [.ptr b 0]∧H.cells b = some [.sc (.str a)]
def BinC (f : FuncId) (Q1 Q2 : Nat→AV→AHeap→Prop) (lo : Nat) (v : AV) (H : AHeap) : Prop:=∃ b1 b2 b3 v1 v2,lo ≤ b1∧lo ≤ b2∧lo ≤ b3∧v = .func (.func 134) [] [.ptr b1 0,.ptr b2 0,.ptr b3 0] ∧
  H.cells b1 = some [v1]∧H.cells b2 = some [v2]∧H.cells b3 = some [.func (.func f) [] []]∧Q1 lo v1 H∧Q2 lo v2 H
theorem keep1 {H H' : AHeap} {bs : List Nat} {n b : Nat} {cs : List AV} (hb : n ≤ b) (h : H.cells b = some cs) (o : Only bs H H') (hl : ∀ b ∈ bs,b < n) : H'.cells b = some cs:=by
  rw [o.cells b (cells_lt h) (fun hm => by have:=hl b hm; omega)]; exact h
theorem NumC.ok {n : Int} : QOk (NumC n) :=
  ⟨fun _ _ _ _ _ ⟨b,h1,h2,h3⟩ o hl => ⟨b,h1,h2,keep1 h1 h3 o hl⟩,fun _ _ _ _ ⟨b,h1,h2,h3⟩ hm => ⟨b,by omega,h2,h3⟩⟩
theorem VarC.ok {a : ByteArray} : QOk (VarC a) :=
  ⟨fun _ _ _ _ _ ⟨b,h1,h2,h3⟩ o hl => ⟨b,h1,h2,keep1 h1 h3 o hl⟩,fun _ _ _ _ ⟨b,h1,h2,h3⟩ hm => ⟨b,by omega,h2,h3⟩⟩
theorem BinC.ok {f : FuncId} {Q1 Q2 : Nat→AV→AHeap→Prop} (k1 : QOk Q1) (k2 : QOk Q2) : QOk (BinC f Q1 Q2) :=
  ⟨fun _ _ _ _ _ ⟨b1,b2,b3,v1,v2,n1,n2,n3,e,c1,c2,c3,q1,q2⟩ o hl => ⟨b1,b2,b3,v1,v2,n1,n2,n3,e,keep1 n1 c1 o hl,keep1 n2 c2 o hl,keep1 n3 c3 o hl,k1.keep _ _ _ _ _ q1 o hl,k2.keep _ _ _ _ _ q2 o hl⟩,
   fun _ _ _ _ ⟨b1,b2,b3,v1,v2,n1,n2,n3,e,c1,c2,c3,q1,q2⟩ hm => ⟨b1,b2,b3,v1,v2,by omega,by omega,by omega,e,c1,c2,c3,k1.mono _ _ _ _ q1 hm,k2.mono _ _ _ _ q2 hm⟩⟩
section
variable {p BT : Nat} {toks : List TkD} {N L : Int} {bk bsc b0 : Nat} {kws vars : List ByteArray} {i j : Nat}
theorem primary_num {t : TkD} (ht : toks[i]? = some t) (hk : t.k = 2) (h1 : ¬ t.v < 0) (h2 : ¬ 1099511627776 < t.v) : Lv 510 p BT toks N L bk bsc b0 kws vars i (i + 1) (NumC t.v):=by
  intro H h e
  refine wpF_ok ok510 ?_
  simp -implicitDefEqProofs (maxDischargeDepth:=12) only [wpF,cf510,WZ,seval,ev_fun]
  refine wA_call rfl ((peek_ev h ht).mono ?_)
  rintro o H1 ⟨v,rfl,rfl,ho⟩
  refine ⟨_,rfl,fun c hc => by simp at hc,?_⟩
  have g1:=h.only ho (by simp) (by simp)
  have o1 : Only [p] H H1:=ho.mono (fun b hb => by cases hb)
  simp -implicitDefEqProofs (maxDischargeDepth:=12) only [WZ,seval,TkD.cells,hk]
  refine wA_call rfl ((number_ev g1 ht 0 1099511627776 hk h1 h2).mono ?_)
  rintro o H2 ⟨v,rfl,rfl,g2,o2⟩
  refine ⟨_,rfl,fun c hc => by simp at hc,?_⟩
  simp -implicitDefEqProofs (maxDischargeDepth:=12) only [WZ,seval]
  have o3 : Only [] H2 ((H2.alloc (.cells [.sc (.int .i64 0)])).put H2.next (some (.cells [.sc (.int .i64 t.v)]))):=by (repeat (first | exact Only.refl | refine Only.put ?_ (by first | (right; omega) | (left; exact List.mem_cons_self ..) | (left; simp [fpS])) | refine Only.alloc ?_))
  have lp:=cells_lt g2.cells
  have oo:=(o1.trans o2).trans (o3.mono (bs:=[p]) (fun b hb => by cases hb))
  exact ⟨g2.only o3 (by simp) (by simp),e.p oo,oo,H2.next,(o1.trans o2).next,rfl,by simp -implicitDefEqProofs (maxDischargeDepth:=12) only [WZ,seval]⟩
theorem sum_plus {k : Nat} {Q1 Q2 : Nat→AV→AHeap→Prop} {t t2 : TkD} (k1 : Lv 401 p BT toks N L bk bsc b0 kws vars i j Q1) (ht : toks[j]? = some t) (h1 : isB t ⟨#[43]⟩ = true) (k2 : Lv 401 p BT toks N L bk bsc b0 kws vars (j + 1) k Q2)
    (ht2 : toks[k]? = some t2) (h2 : isB t2 ⟨#[43]⟩ = false) (h3 : isB t2 ⟨#[45]⟩ = false) (q1 : QOk Q1) (q2 : QOk Q2) :
    Lv 311 p BT toks N L bk bsc b0 kws vars i k (BinC 402 Q1 Q2):=by
  intro H h e
  refine wpF_ok ok311 ?_
  simp -implicitDefEqProofs (maxDischargeDepth:=12) only [wpF,cf311,WZ,seval]
  refine wA_call rfl ((k1 _ h e).mono ?_)
  rintro o H1 ⟨w1,rfl,h1H1,hcH1,hH1,eH1,oH1,qH1⟩
  refine ⟨_,rfl,fun c hc => by simp at hc,?_⟩
  simp -implicitDefEqProofs (maxDischargeDepth:=12) only [WI,seval,h1H1,hcH1]
  refine wp_unroll 3 ?_
  simp -implicitDefEqProofs (maxDischargeDepth:=12) only [WZ,seval]
  refine wA_call rfl ((acc_yes hH1 eH1 ht _ h1).mono ?_)
  rintro o H2 ⟨v,rfl,rfl,hH2,eH2,oH2⟩
  refine ⟨_,rfl,fun c hc => by simp at hc,?_⟩
  simp -implicitDefEqProofs (maxDischargeDepth:=12) only [WI,seval]
  refine wA_call rfl ((k2 _ hH2 eH2).mono ?_)
  rintro o H3 ⟨w2,rfl,h1H3,hcH3,hH3,eH3,oH3,qH3⟩
  refine ⟨_,rfl,fun c hc => by simp at hc,?_⟩
  simp -implicitDefEqProofs (maxDischargeDepth:=12) only [WI,seval,h1H3,hcH3]
  refine wA_call rfl (wpF_ok ok64 ?_)
  have os1 : AV.ones [w1] = true:=by rw [os_cons,h1H1]; rfl
  have os2 : AV.ones [w2] = true:=by rw [os_cons,h1H3]; rfl
  simp -implicitDefEqProofs (maxDischargeDepth:=12) only [tI_normal,wpF,cf64,WZ,seval,ev_fun,hcH1,hcH3,h1H1,h1H3,os1,os2]
  refine wpI_succ ?_
  simp -implicitDefEqProofs (maxDischargeDepth:=12) only [WZ,seval]
  have o3 : Only [] H3 (((H3.alloc (.cells [w1])).alloc (.cells [w2])).alloc (.cells [.func (.func 402) [] []])):=by (repeat (first | exact Only.refl | refine Only.put ?_ (by first | (right; omega) | (left; exact List.mem_cons_self ..) | (left; simp [fpS])) | refine Only.alloc ?_))
  have lp:=cells_lt hH3.cells
  have g4:=hH3.only o3 (by simp) (by simp)
  have o3':=o3.mono (bs:=[p]) (fun b hb => by cases hb)
  have e4:=eH3.p o3'
  refine wA_call rfl ((acc_no g4 e4 ht2 _ h2).mono ?_)
  rintro o H5 ⟨v,rfl,rfl,hH5,eH5,oH5⟩
  refine ⟨_,rfl,fun c hc => by simp at hc,?_⟩
  simp -implicitDefEqProofs (maxDischargeDepth:=12) only [WI,seval]
  refine wA_call rfl ((acc_no hH5 eH5 ht2 _ h3).mono ?_)
  rintro o H6 ⟨v,rfl,rfl,hH6,eH6,oH6⟩
  refine ⟨_,rfl,fun c hc => by simp at hc,?_⟩
  simp -implicitDefEqProofs (maxDischargeDepth:=12) only [WI,seval]
  have oo:=(((oH1.trans oH2).trans oH3).trans o3').trans (oH5.trans oH6)
  have ok:=o3'.trans (oH5.trans oH6)
  have o56:=oH5.trans oH6
  have n3:=((oH1.trans oH2).trans oH3).next
  have n2:=(oH1.trans oH2).next
  have lpp:=cells_lt h.cells
  refine ⟨hH6,eH6,oo,H3.next,H3.next + 1,H3.next + 1 + 1,w1,w2,by omega,by omega,by omega,rfl,?_,?_,?_,q1.keep _ _ _ _ _ qH1 ((oH2.trans oH3).trans ok) (fun b hb => by simp at hb; omega),q2.keep _ _ _ _ _ (q2.mono _ _ _ _ qH3 n2) ok (fun b hb => by simp at hb; omega)⟩
  · rw [o56.cells _ (by simp only [AHeap.next_alloc]; omega) (by simp only [List.mem_singleton]; omega)]; simp -implicitDefEqProofs (maxDischargeDepth:=12) only [WZ,seval,show ¬ H3.next = H3.next + 1 + 1 by omega,show ¬ H3.next = H3.next + 1 by omega]
  · rw [o56.cells _ (by simp only [AHeap.next_alloc]; omega) (by simp only [List.mem_singleton]; omega)]; simp -implicitDefEqProofs (maxDischargeDepth:=12) only [WZ,seval,show ¬ H3.next + 1 = H3.next + 1 + 1 by omega]
  · rw [o56.cells _ (by simp only [AHeap.next_alloc]; omega) (by simp only [List.mem_singleton]; omega)]; simp -implicitDefEqProofs (maxDischargeDepth:=12) only [WZ,seval]
end
end Go.Hem
namespace Go.Hem
theorem i0 : IntKind.i64.wrap 0 = 0:=by decide
theorem s_mkif {P : Program} {t : List AV} {H : AHeap} {T : TypeId} {x : Operand} : csem P t H (.mkif T x) = some (.val (.iface T (aev t x))):=rfl
theorem o_iface {T : TypeId} {x : AV} : AV.one (.iface T x) = true:=rfl
theorem c_iface {T : TypeId} {x : AV} : AV.cells (.iface T x) = [.iface T x]:=rfl
theorem map_put {H : AHeap} {b : Nat} {es es' : List (AV × AV)} (h : H.map b = some es) : (H.put b (some (.map es'))).map b = some es':=by
  unfold AHeap.map at h ⊢
  cases q : H.get b with
  | none => rw [q] at h; cases h
  | some x => rw [AHeap.get_put_self _ q]
theorem PEn.put {p bk bsc b0 : Nat} {kws vars vars' : List ByteArray} {H : AHeap} (h : PEn p bk bsc b0 kws vars H) : PEn p bk bsc b0 kws vars' (H.put b0 (some (.map (wmap vars')))):=by
  have o : Only [b0] H (H.put b0 (some (.map (wmap vars')))):=by (repeat (first | exact Only.refl | refine Only.put ?_ (by first | (right; omega) | (left; exact List.mem_cons_self ..) | (left; simp [fpS])) | refine Only.alloc ?_))
  have hs : bsc ≠ b0:=fun e => by have:=map_cells h.m0; rw [← e,h.sc] at this; cases this
  exact ⟨by rw [o.map bk (map_lt h.mw) (by simp; exact h.ne)]; exact h.mw,by rw [o.cells bsc (cells_lt h.sc) (by simpa using hs)]; exact h.sc,map_put h.m0,h.ne,h.n1,h.n2,h.n3⟩
section
variable {p BT : Nat} {toks : List TkD} {N L : Int} {bk bsc b0 : Nat} {kws vars : List ByteArray} {i j : Nat} {H : AHeap}
end
end Go.Hem
set_option maxRecDepth 100000
namespace Go.Hem
def kwL : List ByteArray:=[⟨#[97,110,100]⟩,⟨#[97,116]⟩,⟨#[99,104,111,114,100,115]⟩,⟨#[99,111,117,110,116]⟩,⟨#[100,111]⟩,⟨#[101,108,115,101]⟩,⟨#[101,118,101,110,116,115]⟩,⟨#[102,111,114]⟩,⟨#[102,114,111,109]⟩,⟨#[105,102]⟩,⟨#[105,110,100,101,120]⟩,⟨#[105,110,116,101,114,118,97,108]⟩,⟨#[105,116]⟩,⟨#[108,101,116]⟩,⟨#[109,101,97,115,117,114,101,115]⟩,⟨#[109,101,116,114,101]⟩,⟨#[110,111,116]⟩,⟨#[110,117,109,98,101,114]⟩,⟨#[111,98,106,101,99,116]⟩,⟨#[111,114]⟩,⟨#[111,116,104,101,114]⟩,⟨#[112,97,114,116,115]⟩,⟨#[112,105,116,99,104]⟩,⟨#[112,114,105,110,116]⟩,⟨#[114,101,112,101,97,116]⟩,⟨#[114,101,115,116,115]⟩,⟨#[115,112,97,110,110,101,114,115]⟩,⟨#[115,116,97,102,102]⟩,⟨#[115,116,97,118,101,115]⟩,⟨#[116,101,120,116]⟩,⟨#[116,111]⟩,⟨#[118,97,108,117,101]⟩,⟨#[118,111,105,99,101]⟩]
def kwVal : AV:=.imm (kwL.map fun w => .sc (.str w))
theorem kwW_run : isV (xPure (Y prog polW memo0 tab 1000) 14 []) kwVal = true:=by decide +kernel
theorem kwW_pv : Pv prog polW 14 [] kwVal:=pv_of_y tab_ok memo0_ok rfl (isV_spec kwW_run)
theorem kw_new : ((List.range 33).all fun i => match kwL[i]? with | some w => !inB (kwL.take i) w | none => false) = true:=by decide +kernel
def Pc.tokD (p : Pc) (off : Nat) (first : Bool) : TkD:=⟨(p.k : Int),ba p.tx,((if p.k = 2 then numVal p.tx else 0 : Nat) : Int),((off + p.sp + 1 : Nat) : Int),decide (p.sp = 0) && !first⟩
def toksD (off : Nat) (first : Bool) : List Pc→List TkD
  | [] => [⟨0,ba [],0,((off + 1 : Nat) : Int),!first⟩]
  | p :: l => p.tokD off first :: toksD (off + p.bytes.length) false l
theorem toksD_eq : ∀ (l : List Pc) (off : Nat) (f : Bool),(toksFrom off f l).flatten = (toksD off f l).flatMap TkD.cells
  | [],_,_ => rfl
  | p :: l,off,f => by
    rw [toksFrom,toksD,List.flatten_cons,List.flatMap_cons,toksD_eq l]; rfl
theorem toksD_length : ∀ (l : List Pc) (off : Nat) (f : Bool),(toksD off f l).length = l.length + 1
  | [],_,_ => rfl
  | p :: l,_,_ => by simp [toksD,toksD_length l]
theorem o_map {b : Nat} : AV.one (.map b) = true:=rfl
theorem c_map {b : Nat} : AV.cells (.map b) = [.map b]:=rfl
theorem h_allocm {H : AHeap} {es : List (AV × AV)} {b : Nat} : (H.alloc (.map es)).cells b = if b = H.next then none else H.cells b:=by
  unfold AHeap.cells
  by_cases e : b = H.next
  · subst e; rw [AHeap.get_alloc_self,if_pos rfl]
  · rw [if_neg e]; unfold AHeap.get AHeap.alloc
    simp only
    by_cases q : b < H.next
    · rw [if_pos (by omega),if_pos q,show H.next + 1 - 1 - b = (H.next - 1 - b) + 1 by omega]; rfl
    · rw [if_neg (by omega),if_neg q]
def Stm (p BT : Nat) (toks : List TkD) (N L : Int) (bk bsc b0 : Nat) (kws vars : List ByteArray) (i j : Nat) (vars' : List ByteArray) (Q : Nat→AV→AHeap→Prop) : Prop :=
  ∀ H,PSt p BT toks i N L (.slice bsc 0 1 1 1) (.map bk) H→PEn p bk bsc b0 kws vars H→Ev prog polW (.call 16 [.ptr p 0]) H fun o H' => ∃ v,o = .val v∧AV.one v = true∧v.cells = [v] ∧
    PSt p BT toks j N L (.slice bsc 0 1 1 1) (.map bk) H'∧PEn p bk bsc b0 kws vars' H'∧Only [p,b0] H H'∧Q H.next v H'
theorem map_allocm {H : AHeap} {es : List (AV × AV)} {b : Nat} : (H.alloc (.map es)).map b = if b = H.next then some es else H.map b:=by
  unfold AHeap.map
  by_cases e : b = H.next
  · subst e; rw [AHeap.get_alloc_self,if_pos rfl]
  · rw [if_neg e]; unfold AHeap.get AHeap.alloc
    simp only
    by_cases q : b < H.next
    · rw [if_pos (by omega),if_pos q,show H.next + 1 - 1 - b = (H.next - 1 - b) + 1 by omega]; rfl
    · rw [if_neg (by omega),if_neg q]
theorem map_alloc {H : AHeap} {z : List AV} {b : Nat} (hb : ¬ b = H.next) : (H.alloc (.cells z)).map b = H.map b:=by
  unfold AHeap.map AHeap.get AHeap.alloc
  simp only
  by_cases q : b < H.next
  · rw [if_pos (by omega),if_pos q,show H.next + 1 - 1 - b = (H.next - 1 - b) + 1 by omega]; rfl
  · rw [if_neg (by omega),if_neg q]
theorem PEn.putk {p bk bsc b0 : Nat} {kws kws' vars : List ByteArray} {H : AHeap} (h : PEn p bk bsc b0 kws vars H) : PEn p bk bsc b0 kws' vars (H.put bk (some (.map (wmap kws')))):=by
  have o : Only [bk] H (H.put bk (some (.map (wmap kws')))):=by (repeat (first | exact Only.refl | refine Only.put ?_ (by first | (right; omega) | (left; exact List.mem_cons_self ..) | (left; simp [fpS])) | refine Only.alloc ?_))
  have hs : bsc ≠ bk:=fun e => by have:=map_cells h.mw; rw [← e,h.sc] at this; cases this
  exact ⟨map_put h.mw,by rw [o.cells bsc (cells_lt h.sc) (by simpa using hs)]; exact h.sc,by rw [o.map b0 (map_lt h.m0) (by simpa using fun q => h.ne q.symm)]; exact h.m0,h.ne,h.n1,h.n2,h.n3⟩
theorem appn_nil {n bytes : Nat} {H : AHeap} {b' : Nat} {xs : List AV} (h : H.cells b' = some xs) (hl : xs.length = n) (hb : bytes ≤ 1000) : appTo n bytes H (.sc .nils) (.slice b' 0 1 1 n) = some (.new (.cells xs) fun b => .slice b 0 1 1 n):=by
  have e : asrc n H (.slice b' 0 1 1 n) 1 = some xs:=by
    simp [asrc,AHeap.rd,h,cutN,hl,List.take_of_length_le]
  show (asrc n H (.slice b' 0 1 1 n) 1).bind _ = _
  rw [e]
  simp only [Option.bind_some]
  rw [if_neg (by decide),if_pos (by omega)]
theorem appn_cons {n bytes : Nat} {H : AHeap} {b' B m : Nat} {cs xs : List AV} (h : H.cells b' = some xs) (hl : xs.length = n) (hB : H.cells B = some cs) (hc : cs.length = m * n) (hm : m < 2 ^ 20) (hb : bytes ≤ 1000) :
    appTo n bytes H (.slice B 0 m m n) (.slice b' 0 1 1 n) = some (.move (fun b => .slice b 0 (m + 1) (m + 1) n) B (cs ++ xs)):=by
  have e : asrc n H (.slice b' 0 1 1 n) 1 = some xs:=by
    simp [asrc,AHeap.rd,h,cutN,hl,List.take_of_length_le]
  show (asrc n H (.slice b' 0 1 1 n) 1).bind _ = _
  rw [e]
  show (H.cells B).bind _ = _
  rw [hB]
  have c1 : ¬ (m + 1 ≤ m):=by omega
  have c3 : (2 * (m + 1) + 1000) * bytes ≤ 2 ^ 47:=Nat.le_trans (Nat.mul_le_mul (show 2 * (m + 1) + 1000 ≤ 2 ^ 22 by omega) hb) (by decide)
  have c2 : (0 = 0∧(2 * (m + 1) + 1000) * bytes ≤ 2 ^ 47∧m * n ≤ cs.length):=⟨rfl,c3,by omega⟩
  show (if ¬ n = n then none else if m + 1 ≤ m then _ else if 0 = 0∧(2 * (m + 1) + 1000) * bytes ≤ 2 ^ 47∧m * n ≤ cs.length then _ else none) = _
  rw [if_neg (by simp),if_neg c1,if_pos c2,List.take_of_length_le (by omega)]
theorem kw_len : lenOf kwVal = some (.sc (.int .i64 33)):=rfl
theorem kw_elem {i : Nat} {w : ByteArray} (h : kwL[i]? = some w) : ∃ z,elemAt 1 kwVal i = some z∧∀ H,read1 H z = some (.sc (.str w)):=by
  have hall : ∀ i,i < 33→∃ z w,kwL[i]? = some w∧elemAt 1 kwVal i = some z∧∀ H,read1 H z = some (.sc (.str w)):=by
    intro i hi
    have : i = 0 ∨ i = 1 ∨ i = 2 ∨ i = 3 ∨ i = 4 ∨ i = 5 ∨ i = 6 ∨ i = 7 ∨ i = 8 ∨ i = 9 ∨ i = 10 ∨ i = 11 ∨ i = 12 ∨ i = 13 ∨ i = 14 ∨ i = 15 ∨ i = 16 ∨ i = 17 ∨ i = 18 ∨ i = 19 ∨ i = 20 ∨ i = 21 ∨ i = 22 ∨ i = 23 ∨ i = 24 ∨ i = 25 ∨ i = 26 ∨ i = 27 ∨ i = 28 ∨ i = 29 ∨ i = 30 ∨ i = 31 ∨ i = 32:=by omega
    rcases this with rfl | rfl | rfl | rfl | rfl | rfl | rfl | rfl | rfl | rfl | rfl | rfl | rfl | rfl | rfl | rfl | rfl | rfl | rfl | rfl | rfl | rfl | rfl | rfl | rfl | rfl | rfl | rfl | rfl | rfl | rfl | rfl | rfl <;> exact ⟨_,_,rfl,rfl,fun _ => rfl⟩
  have hi : i < 33:=(List.getElem?_eq_some_iff.1 h).1
  obtain ⟨z,w',h1,h2,h3⟩:=hall i hi
  rw [h] at h1
  cases h1
  exact ⟨z,h2,h3⟩
end Go.Hem
namespace Go.Hem
theorem kw_step {i : Nat} (hi : i < 33) : ∃ w,kwL[i]? = some w∧inB (kwL.take i) w = false∧kwL.take i ++ [w] = kwL.take (i + 1):=by
  have h:=List.all_eq_true.1 kw_new i (by simpa using hi)
  cases q : kwL[i]? with
  | none => rw [q] at h; cases h
  | some w =>
    rw [q] at h
    refine ⟨w,rfl,by simpa using h,?_⟩
    obtain ⟨h1,rfl⟩:=List.getElem?_eq_some_iff.1 q
    rw [List.take_append_getElem]
theorem pcs_len : ∀ (l : List Pc),pcsOk l = true→l.length ≤ (textOf l).length
  | [],_ => Nat.zero_le _
  | p :: l,ok => by
    have h1:=cont_ne ok
    have ok':=ok
    simp only [pcsOk,Bool.and_eq_true] at ok'
    have h2:=pcs_len l ok'.2
    rw [textOf_cons,List.length_cons,List.length_append,List.length_append]
    have:=List.length_pos_iff.2 h1
    omega
end Go.Hem
namespace Go.Hem
theorem ba_toList (l : List UInt8) : (ba l).toList = l:=by rw [ByteArray.toList_eq]; simp [ba]
theorem lit_toList (l : List UInt8) : (⟨l.toArray⟩ : ByteArray).toList = l:=by rw [ByteArray.toList_eq]
section
variable {p BT : Nat} {toks : List TkD} {N L : Int} {bk bsc b0 : Nat} {kws vars : List ByteArray} {i j : Nat}
end
structure Stop (t : TkD) : Prop where
  a : isB t ⟨#[42]⟩ = false
  b : isB t ⟨#[47]⟩ = false
  c : isB t ⟨#[92]⟩ = false
  d : isB t ⟨#[43]⟩ = false
  e : isB t ⟨#[45]⟩ = false
  f : isB t ⟨#[61]⟩ = false
  g : isB t ⟨#[33]⟩ = false
  h : isB t ⟨#[60]⟩ = false
  i : isB t ⟨#[62]⟩ = false
  j : isB t ⟨#[97,110,100]⟩ = false
  k : isB t ⟨#[111,114]⟩ = false
section
variable {p BT : Nat} {toks : List TkD} {N L : Int} {bk bsc b0 : Nat} {kws vars : List ByteArray} {i j : Nat}
theorem expr_of_sum {Q : Nat→AV→AHeap→Prop} {t tj : TkD} (ht : toks[i]? = some t) (h1 : isB t ⟨#[110,111,116]⟩ = false) (hj : toks[j]? = some tj) (st : Stop tj) (hQ : QOk Q)
    (k : Lv 311 p BT toks N L bk bsc b0 kws vars i j Q) : Lv 27 p BT toks N L bk bsc b0 kws vars i j Q :=
  expr_lv (both_lv (negation_lv ht h1 hQ (comparison_lv k hj st.f st.g st.h st.i hQ)) hj st.j hQ) hj st.k hQ
end
structure Nm (w : List UInt8) : Prop where
  ne : ∃ c r,w = c :: r∧isLetter c = true∧r.all isInW = true
  len : w.length ≤ 20
  kw : inB kwL (ba w) = false
end Go.Hem
set_option maxRecDepth 10000
namespace Go.Hem
def PErr (p : Nat) (T A N L SC KW LN CO : AV) (e : Int) (H : AHeap) : Prop:=H.cells p = some [T,A,N,L,SC,KW,LN,CO,.sc (.int .i64 e)]
section
variable {p : Nat} {T A N L SC KW LN CO : AV} {e : Int} {H : AHeap}
theorem PErr.only {H' : AHeap} (h : PErr p T A N L SC KW LN CO e H) (o : Only [] H H') : PErr p T A N L SC KW LN CO e H':=by
  unfold PErr at h ⊢; rw [o.cells p (cells_lt h) (by simp)]; exact h
def tkE : List AV:=[.sc (.int .i64 (-1)),.sc (.str ⟨#[]⟩),.sc (.int .i64 0),.sc (.str ⟨#[]⟩),.sc (.int .i64 0),.sc (.int .i64 0),.sc (.bool false)]
def tk0 : List AV:=[.sc (.int .i64 0),.sc (.str ⟨#[]⟩),.sc (.int .i64 0),.sc (.str ⟨#[]⟩),.sc (.int .i64 0),.sc (.int .i64 0),.sc (.bool false)]
variable (h : PErr p T A N L SC KW LN CO e H) (he : ¬ e = 0)
include h he
theorem peek_err : Ev prog polW (.call 15 [.ptr p 0]) H fun o H' => ∃ v,o = .val v∧v = .agg tkE∧Only [] H H':=by
  have hp : H.cells p = _:=h
  have lp:=cells_lt hp
  have n1 : ¬ p = H.next:=by omega
  refine wpF_ok ok15 ?_
  simp -implicitDefEqProofs (maxDischargeDepth:=12) only [wpF,cf15,WZ,seval,hp,n1,he,tkE]
  (repeat (first | exact Only.refl | refine Only.put ?_ (by first | (right; omega) | (left; exact List.mem_cons_self ..) | (left; simp [fpS])) | refine Only.alloc ?_))
theorem is_err (s : ByteArray) : Ev prog polW (.call 60 [.ptr p 0,.sc (.str s)]) H fun o H' => ∃ v,o = .val v∧v = .sc (.bool false)∧Only [] H H':=by
  refine wpF_ok ok60 ?_
  simp -implicitDefEqProofs (maxDischargeDepth:=12) only [wpF,cf60,WZ,seval]
  refine wA_call rfl ((peek_err h he).mono ?_)
  rintro o H1 ⟨v,rfl,rfl,ho⟩
  refine ⟨_,rfl,fun c hc => by simp at hc,?_⟩
  simp -implicitDefEqProofs (maxDischargeDepth:=12) only [WZ,seval,tkE,show ¬ (-1 : Int) = 1 by decide,show ¬ (-1 : Int) = 4 by decide]
  exact ho.then (show Only [] H1 _ from by (repeat (first | exact Only.refl | refine Only.put ?_ (by first | (right; omega) | (left; exact List.mem_cons_self ..) | (left; simp [fpS])) | refine Only.alloc ?_))) (fun b hb => by cases hb)
theorem accept_err (s : ByteArray) : Ev prog polW (.call 24 [.ptr p 0,.sc (.str s)]) H fun o H' => ∃ v,o = .val v∧v = .sc (.bool false)∧Only [] H H':=by
  refine wpF_ok ok24 ?_
  simp -implicitDefEqProofs (maxDischargeDepth:=12) only [wpF,cf24,WZ,seval]
  refine wA_call rfl ((is_err h he s).mono ?_)
  rintro o H1 ⟨v,rfl,rfl,ho⟩
  refine ⟨_,rfl,fun c hc => by simp at hc,?_⟩
  simp -implicitDefEqProofs (maxDischargeDepth:=12) only [WZ,seval]
  exact ho
theorem fail_err (n : Int) : Ev prog polW (.call 34 [.ptr p 0,.sc (.int .i64 n)]) H fun o H' => ∃ v,o = .val v∧v = .tup []∧Only [] H H':=by
  have hp : H.cells p = _:=h
  refine wpF_ok ok34 ?_
  simp -implicitDefEqProofs (maxDischargeDepth:=12) only [wpF,cf34,WZ,seval,hp,he,cr_nil]
  exact Only.refl
theorem expect_err (s : ByteArray) : Ev prog polW (.call 33 [.ptr p 0,.sc (.str s)]) H fun o H' => ∃ v,o = .val v∧v = .tup []∧Only [] H H':=by
  refine wpF_ok ok33 ?_
  simp -implicitDefEqProofs (maxDischargeDepth:=12) only [wpF,cf33,WZ,seval]
  refine wA_call rfl ((accept_err h he s).mono ?_)
  rintro o H1 ⟨v,rfl,rfl,ho⟩
  refine ⟨_,rfl,fun c hc => by simp at hc,?_⟩
  simp -implicitDefEqProofs (maxDischargeDepth:=12) only [WZ,seval]
  refine wA_call rfl ((fail_err (h.only ho) he 13).mono ?_)
  rintro o H2 ⟨v,rfl,rfl,ho2⟩
  refine ⟨_,rfl,fun c hc => by simp at hc,?_⟩
  simp -implicitDefEqProofs (maxDischargeDepth:=12) only [WZ,seval,cr_nil]
  exact ho.trans ho2
theorem pair_err (s s2 : ByteArray) : Ev prog polW (.call 312 [.ptr p 0,.sc (.str s),.sc (.str s2)]) H fun o H' => ∃ v,o = .val v∧v = .sc (.bool false)∧Only [] H H':=by
  refine wpF_ok ok312 ?_
  simp -implicitDefEqProofs (maxDischargeDepth:=12) only [wpF,cf312,WZ,seval]
  refine wA_call rfl ((is_err h he s).mono ?_)
  rintro o H1 ⟨v,rfl,rfl,ho⟩
  refine ⟨_,rfl,fun c hc => by simp at hc,?_⟩
  simp -implicitDefEqProofs (maxDischargeDepth:=12) only [WZ,seval]
  exact ho
end
theorem fail_ev {p BT : Nat} {toks : List TkD} {i : Nat} {N L : Int} {SC KW : AV} {H : AHeap} (h : PSt p BT toks i N L SC KW H) {t : TkD} (ht : toks[i]? = some t) (n : Int) : Ev prog polW (.call 34 [.ptr p 0,.sc (.int .i64 n)]) H fun o H' => ∃ v,o = .val v∧v = .tup [] ∧
    PErr p (.slice BT 0 toks.length toks.length 7) (.sc (.int .i64 (i : Int))) (.sc (.int .i64 N)) (.sc (.int .i64 L)) SC KW (.sc (.int .i64 1)) (.sc (.int .i64 t.col)) n H'∧Only [p] H H':=by
  have hp:=h.cells
  refine wpF_ok ok34 ?_
  simp -implicitDefEqProofs (maxDischargeDepth:=12) only [wpF,cf34,WZ,seval,hp]
  refine wA_call rfl ((peek_ev h ht).mono ?_)
  rintro o H1 ⟨v,rfl,rfl,ho⟩
  refine ⟨_,rfl,fun c hc => by simp at hc,?_⟩
  have g1:=h.only ho (by simp) (by simp)
  have hp1:=g1.cells
  have lp:=cells_lt hp1
  have n1 : ¬ p = H1.next:=by omega
  have n2 : ¬ H1.next = p:=by omega
  simp -implicitDefEqProofs (maxDischargeDepth:=12) only [WZ,seval,TkD.cells,hp1,n1,n2,cr_nil]
  refine ⟨?_,(ho.mono (bs:=[p]) (fun b hb => by cases hb)).trans (by (repeat (first | exact Only.refl | refine Only.put ?_ (by first | (right; omega) | (left; exact List.mem_cons_self ..) | (left; simp [fpS])) | refine Only.alloc ?_)))⟩
  unfold PErr
  simp -implicitDefEqProofs (maxDischargeDepth:=12) only [WZ,seval,hp1,n1,n2]
end Go.Hem
set_option maxRecDepth 100000
namespace Go.Hem
section
variable {p BT : Nat} {toks : List TkD} {N L : Int} {bk bsc b0 : Nat} {kws vars : List ByteArray} {i : Nat} {H : AHeap}
end
end Go.Hem
namespace Go.Hem
end Go.Hem
set_option maxRecDepth 10000
namespace Go.Hem
section
variable {p BT : Nat} {toks : List TkD} {N L : Int} {SC KW : AV} {bk bsc b0 : Nat} {kws vars : List ByteArray} {i j : Nat} {H : AHeap}
theorem open_ev {t : TkD} (h : PSt p BT toks i N L SC KW H) (ht : toks[i]? = some t) (s : ByteArray) (hs : isB t s = true) (h0 : 0 ≤ N) (h16 : N < 16) :
    Ev prog polW (.call 67 [.ptr p 0,.sc (.str s)]) H fun o H' => ∃ v,o = .val v∧v = .tup []∧PSt p BT toks (i + 1) (N + 1) L SC KW H'∧Only [p] H H':=by
  refine wpF_ok ok67 ?_
  simp -implicitDefEqProofs (maxDischargeDepth:=12) only [wpF,cf67,WZ,seval]
  refine wA_call rfl ((is_ev h ht s).mono ?_)
  rintro o H1 ⟨v,rfl,rfl,ho⟩
  refine ⟨_,rfl,fun c hc => by simp at hc,?_⟩
  have g1:=h.only ho (by simp) (by simp)
  have o1 : Only [p] H H1:=ho.mono (fun b hb => by cases hb)
  have hp:=g1.cells
  have hw:=wrapA h ht
  have c1 : ¬ N = 16:=by omega
  have hN : IntKind.i64.wrap (N + 1) = N + 1:=by rw [w64 (by omega) (by omega)]
  have n3 : ¬ BT = p:=fun e => g1.ne e.symm
  simp -implicitDefEqProofs (maxDischargeDepth:=12) only [WZ,seval,hs,hp,c1,hw,hN,cr_nil]
  refine ⟨⟨by simp -implicitDefEqProofs (maxDischargeDepth:=12) only [WZ,seval,hp],by simp -implicitDefEqProofs (maxDischargeDepth:=12) only [WZ,seval,hp,g1.tb,n3],g1.ne,g1.sm⟩,o1.trans (by (repeat (first | exact Only.refl | refine Only.put ?_ (by first | (right; omega) | (left; exact List.mem_cons_self ..) | (left; simp [fpS])) | refine Only.alloc ?_)))⟩
theorem shut_ev {t : TkD} (h : PSt p BT toks i N L SC KW H) (ht : toks[i]? = some t) (s : ByteArray) (hs : isB t s = true) (h0 : 0 < N) (h16 : N ≤ 16) :
    Ev prog polW (.call 68 [.ptr p 0,.sc (.str s)]) H fun o H' => ∃ v,o = .val v∧v = .tup []∧PSt p BT toks (i + 1) (N - 1) L SC KW H'∧Only [p] H H':=by
  refine wpF_ok ok68 ?_
  simp -implicitDefEqProofs (maxDischargeDepth:=12) only [wpF,cf68,WZ,seval]
  refine wA_call rfl ((expect_ev h ht s hs).mono ?_)
  rintro o H1 ⟨v,rfl,rfl,g1,o1⟩
  refine ⟨_,rfl,fun c hc => by simp at hc,?_⟩
  have hp:=g1.cells
  have hN : IntKind.i64.wrap (N - 1) = N - 1:=by rw [w64 (by omega) (by omega)]
  have n3 : ¬ BT = p:=fun e => g1.ne e.symm
  simp -implicitDefEqProofs (maxDischargeDepth:=12) only [WZ,seval,hp,hN,cr_nil]
  refine ⟨⟨by simp -implicitDefEqProofs (maxDischargeDepth:=12) only [WZ,seval,hp],by simp -implicitDefEqProofs (maxDischargeDepth:=12) only [WZ,seval,hp,g1.tb,n3],g1.ne,g1.sm⟩,o1.trans (by (repeat (first | exact Only.refl | refine Only.put ?_ (by first | (right; omega) | (left; exact List.mem_cons_self ..) | (left; simp [fpS])) | refine Only.alloc ?_)))⟩
structure IsSym (t : TkD) (c : UInt8) : Prop where
  k : t.k = 4
  x : t.tx = ⟨#[c]⟩
theorem IsSym.is {t : TkD} {c : UInt8} (h : IsSym t c) (d : UInt8) : isB t ⟨#[d]⟩ = (c == d):=by
  unfold isB
  rw [h.k,h.x,show (⟨#[d]⟩ : ByteArray).toList = [d] from by rw [ByteArray.toList_eq],show (⟨#[c]⟩ : ByteArray).toList = [c] from by rw [ByteArray.toList_eq]]
  simp
theorem IsSym.wd {t : TkD} {c : UInt8} (h : IsSym t c) (d e : UInt8) (r : List UInt8) : isB t ⟨(d :: e :: r).toArray⟩ = false:=by
  unfold isB
  rw [h.k,h.x,ByteArray.toList_eq,ByteArray.toList_eq]
  simp
theorem primary_par {Q : Nat→AV→AHeap→Prop} {t t2 : TkD} (ht : toks[i]? = some t) (hs : IsSym t 40) (h0 : 0 ≤ N) (h16 : N < 16) (k : Lv 27 p BT toks (N + 1) L bk bsc b0 kws vars (i + 1) j Q) (ht2 : toks[j]? = some t2) (hs2 : IsSym t2 41)
    (hQ : QOk Q) : Lv 510 p BT toks N L bk bsc b0 kws vars i (j + 1) Q:=by
  intro H h e
  refine wpF_ok ok510 ?_
  simp -implicitDefEqProofs (maxDischargeDepth:=12) only [wpF,cf510,WZ,seval,ev_fun]
  refine wA_call rfl ((peek_ev h ht).mono ?_)
  rintro o H1 ⟨v,rfl,rfl,ho⟩
  refine ⟨_,rfl,fun c hc => by simp at hc,?_⟩
  have g1:=h.only ho (by simp) (by simp)
  have o1 : Only [p] H H1:=ho.mono (fun b hb => by cases hb)
  have e1:=e.p o1
  have a1 : isB t ⟨#[105,116]⟩ = false:=hs.wd 105 116 []
  have a2 : isB t ⟨#[99,111,117,110,116]⟩ = false:=hs.wd 99 111 [117,110,116]
  have a3 : isB t ⟨#[40]⟩ = true:=by rw [hs.is]; rfl
  have a4 : isB t2 ⟨#[41]⟩ = true:=by rw [hs2.is]; rfl
  simp -implicitDefEqProofs (maxDischargeDepth:=12) only [WZ,seval,TkD.cells,hs.k,show ¬ (4 : Int) = 2 by decide]
  refine wA_call rfl ((is_ev g1 ht _).mono ?_)
  rintro o H2 ⟨v,rfl,rfl,ho2⟩
  refine ⟨_,rfl,fun c hc => by simp at hc,?_⟩
  have g2:=g1.only ho2 (by simp) (by simp)
  have o2 : Only [p] H1 H2:=ho2.mono (fun b hb => by cases hb)
  have e2:=e1.p o2
  simp -implicitDefEqProofs (maxDischargeDepth:=12) only [WZ,seval,a1]
  refine wA_call rfl ((acc_no g2 e2 ht _ a2).mono ?_)
  rintro o H3 ⟨v,rfl,rfl,hH3,eH3,oH3⟩
  refine ⟨_,rfl,fun c hc => by simp at hc,?_⟩
  simp -implicitDefEqProofs (maxDischargeDepth:=12) only [WI,seval]
  refine wA_call rfl ((is_ev hH3 ht _).mono ?_)
  rintro o H4 ⟨v,rfl,rfl,ho4⟩
  refine ⟨_,rfl,fun c hc => by simp at hc,?_⟩
  have g4:=hH3.only ho4 (by simp) (by simp)
  have o4 : Only [p] H3 H4:=ho4.mono (fun b hb => by cases hb)
  have e4:=eH3.p o4
  simp -implicitDefEqProofs (maxDischargeDepth:=12) only [WZ,seval,a3]
  refine wA_call rfl ((open_ev g4 ht _ a3 h0 h16).mono ?_)
  rintro o H5 ⟨v,rfl,rfl,g5,o5⟩
  refine ⟨_,rfl,fun c hc => by simp at hc,?_⟩
  have e5:=e4.p o5
  simp -implicitDefEqProofs (maxDischargeDepth:=12) only [WZ,seval]
  refine wA_call rfl ((k _ g5 e5).mono ?_)
  rintro o H6 ⟨w,rfl,h1H6,hcH6,hH6,eH6,oH6,qH6⟩
  refine ⟨_,rfl,fun c hc => by simp at hc,?_⟩
  simp -implicitDefEqProofs (maxDischargeDepth:=12) only [WI,seval,h1H6,hcH6]
  refine wA_call rfl ((shut_ev hH6 ht2 _ a4 (by omega) (by omega)).mono ?_)
  rintro o H7 ⟨v,rfl,rfl,g7,o7⟩
  refine ⟨_,rfl,fun c hc => by simp at hc,?_⟩
  have e7:=eH6.p o7
  rw [show N + 1 - 1 = N by omega] at g7
  simp -implicitDefEqProofs (maxDischargeDepth:=12) only [WZ,seval,h1H6,hcH6]
  exact ⟨g7,e7,((((((o1.trans o2).trans oH3).trans o4).trans o5).trans oH6).trans o7),hQ.keep _ _ _ _ _ (hQ.mono _ _ _ _ qH6 (((((o1.trans o2).trans oH3).trans o4).trans o5).next)) o7 (fun b hb => by simp at hb; subst hb; exact cells_lt h.cells)⟩
def PrintC (Q : Nat → AV → AHeap → Prop) (lo : Nat) (v : AV) (H : AHeap) : Prop := ∃ T b w, lo ≤ b ∧ v = .iface T (.ptr b 0) ∧ amethod prog T "hemiola/script.exec" = some 636 ∧ H.cells b = some [.sc (.bool false), .sc (.str ⟨#[]⟩), w] ∧ Q (b + 1) w H
theorem PrintC.ok {Q : Nat→AV→AHeap→Prop} (k : QOk Q) : QOk (PrintC Q) :=
  ⟨fun _ _ _ _ _ ⟨T,b,w,h1,h2,hi,h3,q⟩ o hl => ⟨T,b,w,h1,h2,hi,keep1 h1 h3 o hl,k.keep _ _ _ _ _ q o (fun c hc => by have:=hl c hc; omega)⟩,fun _ _ _ _ ⟨T,b,w,h1,h2,hi,h3,q⟩ hm => ⟨T,b,w,by omega,h2,hi,h3,q⟩⟩
theorem stm_print {Q : Nat→AV→AHeap→Prop} {tl t0 t2 : TkD} (htl : toks[i]? = some tl) (hl : isB tl ⟨#[108,101,116]⟩ = false) (hp : isB tl ⟨#[112,114,105,110,116]⟩ = true) (ht0 : toks[i + 1]? = some t0) (hk : ¬ t0.k = 3)
    (k : Lv 27 p BT toks N L bk bsc b0 kws vars (i + 1) j Q) (ht2 : toks[j]? = some t2) (h5 : isB t2 ⟨#[59]⟩ = true) (hQ : QOk Q) :
    Stm p BT toks N L bk bsc b0 kws vars i (j + 1) vars (PrintC Q):=by
  intro H h e
  have os : AV.ones [.sc (.bool false),.sc (.str ⟨#[]⟩),.sc .nilf] = true:=rfl
  refine wpF_ok ok16 ?_
  simp -implicitDefEqProofs (maxDischargeDepth:=12) only [wpF,cf16,WZ,seval]
  refine wA_call rfl ((acc_no h e htl _ hl).mono ?_)
  rintro o H1 ⟨v,rfl,rfl,hH1,eH1,oH1⟩
  refine ⟨_,rfl,fun c hc => by simp at hc,?_⟩
  simp -implicitDefEqProofs (maxDischargeDepth:=12) only [WI,seval]
  refine wA_call rfl ((acc_yes hH1 eH1 htl _ hp).mono ?_)
  rintro o H2 ⟨v,rfl,rfl,hH2,eH2,oH2⟩
  refine ⟨_,rfl,fun c hc => by simp at hc,?_⟩
  simp -implicitDefEqProofs (maxDischargeDepth:=12) only [WI,seval]
  refine wA_call rfl (wpF_ok ok26 ?_)
  simp -implicitDefEqProofs (maxDischargeDepth:=12) only [wpF,cf26,WZ,seval,os]
  have ho3 : Only [] H2 (H2.alloc (.cells [.sc (.bool false),.sc (.str ⟨#[]⟩),.sc .nilf])):=by (repeat (first | exact Only.refl | refine Only.put ?_ (by first | (right; omega) | (left; exact List.mem_cons_self ..) | (left; simp [fpS])) | refine Only.alloc ?_))
  have lp2:=cells_lt hH2.cells
  have g3:=hH2.only ho3 (by simp) (by simp)
  have o3:=ho3.mono (bs:=[p]) (fun b hb => by cases hb)
  have e3:=eH2.p o3
  have x3 : (H2.alloc (.cells [.sc (.bool false),.sc (.str ⟨#[]⟩),.sc .nilf])).cells H2.next = some [.sc (.bool false),.sc (.str ⟨#[]⟩),.sc .nilf]:=by simp -implicitDefEqProofs (maxDischargeDepth:=12) only [WZ,seval]
  have n3 : H2.next + 1 ≤ (H2.alloc (.cells [.sc (.bool false),.sc (.str ⟨#[]⟩),.sc .nilf])).next:=by simp
  generalize (H2.alloc (.cells [.sc (.bool false),.sc (.str ⟨#[]⟩),.sc .nilf])) = H3 at ho3 g3 o3 e3 x3 n3 ⊢
  refine wA_call rfl ((peek_ev g3 ht0).mono ?_)
  rintro o H4 ⟨v,rfl,rfl,ho4⟩
  refine ⟨_,rfl,fun c hc => by simp at hc,?_⟩
  have g4:=g3.only ho4 (by simp) (by simp)
  have o4 : Only [p] H3 H4:=ho4.mono (fun b hb => by cases hb)
  have e4:=e3.p o4
  have x4:=(ho4.cells _ (cells_lt x3) (by simp)).trans x3
  have n4:=ho4.next
  simp -implicitDefEqProofs (maxDischargeDepth:=12) only [WZ,seval,TkD.cells,hk]
  refine wA_call rfl ((k _ g4 e4).mono ?_)
  rintro o H5 ⟨w,rfl,h1H5,hcH5,hH5,eH5,oH5,qH5⟩
  refine ⟨_,rfl,fun c hc => by simp at hc,?_⟩
  simp -implicitDefEqProofs (maxDischargeDepth:=12) only [WI,seval,h1H5,hcH5]
  have x5:=(oH5.cells H2.next (by omega) (by simp; omega)).trans x4
  simp -implicitDefEqProofs (maxDischargeDepth:=12) only [WZ,seval,x5,h1H5,hcH5]
  have ho6 : Only [H2.next] H5 (H5.put H2.next (some (.cells [.sc (.bool false),.sc (.str ⟨#[]⟩),w]))):=by (repeat (first | exact Only.refl | refine Only.put ?_ (by first | (right; omega) | (left; exact List.mem_cons_self ..) | (left; simp [fpS])) | refine Only.alloc ?_))
  have lb2:=cells_lt hH2.tb
  have lm2:=map_lt eH2.mw
  have l02:=map_lt eH2.m0
  have ls2:=cells_lt eH2.sc
  have g6:=hH5.only ho6 (by simp; omega) (by simp; omega)
  have e6:=eH5.only ho6 (by simp; omega) (by simp; omega) (by simp; omega)
  have x6 : (H5.put H2.next (some (.cells [.sc (.bool false),.sc (.str ⟨#[]⟩),w]))).cells H2.next = some [.sc (.bool false),.sc (.str ⟨#[]⟩),w]:=by simp -implicitDefEqProofs (maxDischargeDepth:=12) only [WZ,seval,x5]
  have q6:=hQ.keep _ _ _ _ _ (hQ.mono (H2.next + 1) _ _ _ qH5 (by omega)) ho6 (fun b hb => by simp at hb; omega)
  generalize (H5.put H2.next (some (.cells [.sc (.bool false),.sc (.str ⟨#[]⟩),w]))) = H6 at ho6 g6 e6 x6 q6 ⊢
  refine wA_call rfl ((expect_ev g6 ht2 _ h5).mono ?_)
  rintro o H7 ⟨v,rfl,rfl,g7,o7⟩
  refine ⟨_,rfl,fun c hc => by simp at hc,?_⟩
  have e7:=e6.p o7
  simp -implicitDefEqProofs (maxDischargeDepth:=12) only [WZ,seval,s_mkif,o_iface,c_iface]
  have oa:=((oH1.trans oH2).trans o3).trans (o4.trans oH5)
  have la:=(oH1.trans oH2).next
  have n6:=ho6.next
  have n5:=oH5.next
  refine ⟨g7,e7,((oa.then ho6 (fun b hb => by simp at hb; right; omega)).trans o7).mono (fun b hb => by simp at hb ⊢; exact .inl hb),_,H2.next,w,by omega,rfl,by kernel_rfl,?_,?_⟩
  · rw [o7.cells _ (cells_lt x6) (by simp; omega)]; exact x6
  · exact hQ.keep _ _ _ _ _ q6 o7 (fun b hb => by simp at hb; omega)
end
end Go.Hem
namespace Go.Hem
section
variable {p BT : Nat} {toks : List TkD} {N L : Int} {bk bsc b0 : Nat} {kws vars : List ByteArray} {i j k : Nat} {Q Q1 Q2 : Nat→AV→AHeap→Prop} {t t2 : TkD}
theorem sum_minus (k1 : Lv 401 p BT toks N L bk bsc b0 kws vars i j Q1) (ht : toks[j]? = some t) (h0 : isB t ⟨#[43]⟩ = false) (h1 : isB t ⟨#[45]⟩ = true) (k2 : Lv 401 p BT toks N L bk bsc b0 kws vars (j + 1) k Q2) (ht2 : toks[k]? = some t2) (h2 : isB t2 ⟨#[43]⟩ = false) (h3 : isB t2 ⟨#[45]⟩ = false) (q1 : QOk Q1) (q2 : QOk Q2) :
    Lv 311 p BT toks N L bk bsc b0 kws vars i k (BinC 403 Q1 Q2):=by
  intro H h e
  refine wpF_ok ok311 ?_
  simp -implicitDefEqProofs (maxDischargeDepth:=12) only [wpF,cf311,WZ,seval]
  refine wA_call rfl ((k1 _ h e).mono ?_)
  rintro o H1 ⟨w1,rfl,h1H1,hcH1,hH1,eH1,oH1,qH1⟩
  refine ⟨_,rfl,fun c hc => by simp at hc,?_⟩
  simp -implicitDefEqProofs (maxDischargeDepth:=12) only [WI,seval,h1H1,hcH1]
  refine wp_unroll 3 ?_
  simp -implicitDefEqProofs (maxDischargeDepth:=12) only [WZ,seval]
  refine wA_call rfl ((acc_no hH1 eH1 ht _ h0).mono ?_)
  rintro o H2 ⟨v,rfl,rfl,hH2,eH2,oH2⟩
  refine ⟨_,rfl,fun c hc => by simp at hc,?_⟩
  simp -implicitDefEqProofs (maxDischargeDepth:=12) only [WI,seval]
  refine wA_call rfl ((acc_yes hH2 eH2 ht _ h1).mono ?_)
  rintro o H3 ⟨v,rfl,rfl,hH3,eH3,oH3⟩
  refine ⟨_,rfl,fun c hc => by simp at hc,?_⟩
  simp -implicitDefEqProofs (maxDischargeDepth:=12) only [WI,seval]
  refine wA_call rfl ((k2 _ hH3 eH3).mono ?_)
  rintro o G ⟨w2,rfl,h1G,hcG,hG,eG,oG,qG⟩
  refine ⟨_,rfl,fun c hc => by simp at hc,?_⟩
  simp -implicitDefEqProofs (maxDischargeDepth:=12) only [WI,seval,h1G,hcG]
  have oa:=((oH1.trans oH2).trans oH3).trans oG
  have ob:=(oH1.trans oH2).trans oH3
  have o1a:=(oH2.trans oH3).trans oG
  refine wA_call rfl (wpF_ok ok64 ?_)
  have os1 : AV.ones [w1] = true:=by rw [os_cons,h1H1]; rfl
  have os2 : AV.ones [w2] = true:=by rw [os_cons,h1G]; rfl
  simp -implicitDefEqProofs (maxDischargeDepth:=12) only [tI_normal,wpF,cf64,WZ,seval,ev_fun,hcH1,hcG,h1H1,h1G,os1,os2]
  refine wpI_succ ?_
  simp -implicitDefEqProofs (maxDischargeDepth:=12) only [WZ,seval]
  have o3 : Only [] G (((G.alloc (.cells [w1])).alloc (.cells [w2])).alloc (.cells [.func (.func 403) [] []])):=by (repeat (first | exact Only.refl | refine Only.put ?_ (by first | (right; omega) | (left; exact List.mem_cons_self ..) | (left; simp [fpS])) | refine Only.alloc ?_))
  have lp:=cells_lt hG.cells
  have g4:=hG.only o3 (by simp) (by simp)
  have o3':=o3.mono (bs:=[p]) (fun b hb => by cases hb)
  have e4:=eG.p o3'
  refine wA_call rfl ((acc_no g4 e4 ht2 _ h2).mono ?_)
  rintro o H5 ⟨v,rfl,rfl,hH5,eH5,oH5⟩
  refine ⟨_,rfl,fun c hc => by simp at hc,?_⟩
  simp -implicitDefEqProofs (maxDischargeDepth:=12) only [WI,seval]
  refine wA_call rfl ((acc_no hH5 eH5 ht2 _ h3).mono ?_)
  rintro o H6 ⟨v,rfl,rfl,hH6,eH6,oH6⟩
  refine ⟨_,rfl,fun c hc => by simp at hc,?_⟩
  simp -implicitDefEqProofs (maxDischargeDepth:=12) only [WI,seval]
  have o56:=oH5.trans oH6
  have n3:=oa.next
  have lpp:=cells_lt h.cells
  refine ⟨hH6,eH6,(oa.trans o3').trans o56,G.next,G.next + 1,G.next + 1 + 1,w1,w2,by omega,by omega,by omega,rfl,?_,?_,?_,q1.keep _ _ _ _ _ qH1 (o1a.trans (o3'.trans o56)) (fun b hb => by simp at hb; omega),q2.keep _ _ _ _ _ (q2.mono _ _ _ _ qG ob.next) (o3'.trans o56) (fun b hb => by simp at hb; omega)⟩
  · rw [(o56).cells _ (by simp only [AHeap.next_alloc]; omega) (by simp only [List.mem_singleton]; omega)]; simp -implicitDefEqProofs (maxDischargeDepth:=12) only [WZ,seval,show ¬ G.next = G.next + 1 + 1 by omega,show ¬ G.next = G.next + 1 by omega]
  · rw [(o56).cells _ (by simp only [AHeap.next_alloc]; omega) (by simp only [List.mem_singleton]; omega)]; simp -implicitDefEqProofs (maxDischargeDepth:=12) only [WZ,seval,show ¬ G.next + 1 = G.next + 1 + 1 by omega]
  · rw [(o56).cells _ (by simp only [AHeap.next_alloc]; omega) (by simp only [List.mem_singleton]; omega)]; simp -implicitDefEqProofs (maxDischargeDepth:=12) only [WZ,seval]
theorem product_mul (k1 : Lv 458 p BT toks N L bk bsc b0 kws vars i j Q1) (ht : toks[j]? = some t) (a0 : isB t ⟨#[42]⟩ = true) (k2 : Lv 458 p BT toks N L bk bsc b0 kws vars (j + 1) k Q2) (ht2 : toks[k]? = some t2) (h2 : isB t2 ⟨#[42]⟩ = false) (h3 : isB t2 ⟨#[47]⟩ = false) (h4 : isB t2 ⟨#[92]⟩ = false) (q1 : QOk Q1) (q2 : QOk Q2) :
    Lv 401 p BT toks N L bk bsc b0 kws vars i k (BinC 459 Q1 Q2):=by
  intro H h e
  refine wpF_ok ok401 ?_
  simp -implicitDefEqProofs (maxDischargeDepth:=12) only [wpF,cf401,WZ,seval]
  refine wA_call rfl ((k1 _ h e).mono ?_)
  rintro o H1 ⟨w1,rfl,h1H1,hcH1,hH1,eH1,oH1,qH1⟩
  refine ⟨_,rfl,fun c hc => by simp at hc,?_⟩
  simp -implicitDefEqProofs (maxDischargeDepth:=12) only [WI,seval,h1H1,hcH1]
  refine wp_unroll 3 ?_
  simp -implicitDefEqProofs (maxDischargeDepth:=12) only [WZ,seval]
  refine wA_call rfl ((acc_yes hH1 eH1 ht _ a0).mono ?_)
  rintro o H3 ⟨v,rfl,rfl,hH3,eH3,oH3⟩
  refine ⟨_,rfl,fun c hc => by simp at hc,?_⟩
  simp -implicitDefEqProofs (maxDischargeDepth:=12) only [WI,seval]
  refine wA_call rfl ((k2 _ hH3 eH3).mono ?_)
  rintro o G ⟨w2,rfl,h1G,hcG,hG,eG,oG,qG⟩
  refine ⟨_,rfl,fun c hc => by simp at hc,?_⟩
  simp -implicitDefEqProofs (maxDischargeDepth:=12) only [WI,seval,h1G,hcG]
  have oa:=(oH1.trans oH3).trans oG
  have ob:=(oH1.trans oH3)
  have o1a:=oH3.trans oG
  refine wA_call rfl (wpF_ok ok64 ?_)
  have os1 : AV.ones [w1] = true:=by rw [os_cons,h1H1]; rfl
  have os2 : AV.ones [w2] = true:=by rw [os_cons,h1G]; rfl
  simp -implicitDefEqProofs (maxDischargeDepth:=12) only [tI_normal,wpF,cf64,WZ,seval,ev_fun,hcH1,hcG,h1H1,h1G,os1,os2]
  refine wpI_succ ?_
  simp -implicitDefEqProofs (maxDischargeDepth:=12) only [WZ,seval]
  have o3 : Only [] G (((G.alloc (.cells [w1])).alloc (.cells [w2])).alloc (.cells [.func (.func 459) [] []])):=by (repeat (first | exact Only.refl | refine Only.put ?_ (by first | (right; omega) | (left; exact List.mem_cons_self ..) | (left; simp [fpS])) | refine Only.alloc ?_))
  have lp:=cells_lt hG.cells
  have g4:=hG.only o3 (by simp) (by simp)
  have o3':=o3.mono (bs:=[p]) (fun b hb => by cases hb)
  have e4:=eG.p o3'
  refine wA_call rfl ((acc_no g4 e4 ht2 _ h2).mono ?_)
  rintro o H5 ⟨v,rfl,rfl,hH5,eH5,oH5⟩
  refine ⟨_,rfl,fun c hc => by simp at hc,?_⟩
  simp -implicitDefEqProofs (maxDischargeDepth:=12) only [WI,seval]
  refine wA_call rfl ((acc_no hH5 eH5 ht2 _ h3).mono ?_)
  rintro o H6 ⟨v,rfl,rfl,hH6,eH6,oH6⟩
  refine ⟨_,rfl,fun c hc => by simp at hc,?_⟩
  simp -implicitDefEqProofs (maxDischargeDepth:=12) only [WI,seval]
  refine wA_call rfl ((acc_no hH6 eH6 ht2 _ h4).mono ?_)
  rintro o H7 ⟨v,rfl,rfl,hH7,eH7,oH7⟩
  refine ⟨_,rfl,fun c hc => by simp at hc,?_⟩
  simp -implicitDefEqProofs (maxDischargeDepth:=12) only [WI,seval]
  have o57:=(oH5.trans oH6).trans oH7
  have n3:=oa.next
  have lpp:=cells_lt h.cells
  refine ⟨hH7,eH7,(oa.trans o3').trans o57,G.next,G.next + 1,G.next + 1 + 1,w1,w2,by omega,by omega,by omega,rfl,?_,?_,?_,q1.keep _ _ _ _ _ qH1 (o1a.trans (o3'.trans o57)) (fun b hb => by simp at hb; omega),q2.keep _ _ _ _ _ (q2.mono _ _ _ _ qG ob.next) (o3'.trans o57) (fun b hb => by simp at hb; omega)⟩
  · rw [(o57).cells _ (by simp only [AHeap.next_alloc]; omega) (by simp only [List.mem_singleton]; omega)]; simp -implicitDefEqProofs (maxDischargeDepth:=12) only [WZ,seval,show ¬ G.next = G.next + 1 + 1 by omega,show ¬ G.next = G.next + 1 by omega]
  · rw [(o57).cells _ (by simp only [AHeap.next_alloc]; omega) (by simp only [List.mem_singleton]; omega)]; simp -implicitDefEqProofs (maxDischargeDepth:=12) only [WZ,seval,show ¬ G.next + 1 = G.next + 1 + 1 by omega]
  · rw [(o57).cells _ (by simp only [AHeap.next_alloc]; omega) (by simp only [List.mem_singleton]; omega)]; simp -implicitDefEqProofs (maxDischargeDepth:=12) only [WZ,seval]
theorem product_quo (k1 : Lv 458 p BT toks N L bk bsc b0 kws vars i j Q1) (ht : toks[j]? = some t) (a0 : isB t ⟨#[42]⟩ = false) (a1 : isB t ⟨#[47]⟩ = true) (k2 : Lv 458 p BT toks N L bk bsc b0 kws vars (j + 1) k Q2) (ht2 : toks[k]? = some t2) (h2 : isB t2 ⟨#[42]⟩ = false) (h3 : isB t2 ⟨#[47]⟩ = false) (h4 : isB t2 ⟨#[92]⟩ = false) (q1 : QOk Q1) (q2 : QOk Q2) :
    Lv 401 p BT toks N L bk bsc b0 kws vars i k (BinC 460 Q1 Q2):=by
  intro H h e
  refine wpF_ok ok401 ?_
  simp -implicitDefEqProofs (maxDischargeDepth:=12) only [wpF,cf401,WZ,seval]
  refine wA_call rfl ((k1 _ h e).mono ?_)
  rintro o H1 ⟨w1,rfl,h1H1,hcH1,hH1,eH1,oH1,qH1⟩
  refine ⟨_,rfl,fun c hc => by simp at hc,?_⟩
  simp -implicitDefEqProofs (maxDischargeDepth:=12) only [WI,seval,h1H1,hcH1]
  refine wp_unroll 3 ?_
  simp -implicitDefEqProofs (maxDischargeDepth:=12) only [WZ,seval]
  refine wA_call rfl ((acc_no hH1 eH1 ht _ a0).mono ?_)
  rintro o A0 ⟨v,rfl,rfl,hA0,eA0,oA0⟩
  refine ⟨_,rfl,fun c hc => by simp at hc,?_⟩
  simp -implicitDefEqProofs (maxDischargeDepth:=12) only [WI,seval]
  refine wA_call rfl ((acc_yes hA0 eA0 ht _ a1).mono ?_)
  rintro o H3 ⟨v,rfl,rfl,hH3,eH3,oH3⟩
  refine ⟨_,rfl,fun c hc => by simp at hc,?_⟩
  simp -implicitDefEqProofs (maxDischargeDepth:=12) only [WI,seval]
  refine wA_call rfl ((k2 _ hH3 eH3).mono ?_)
  rintro o G ⟨w2,rfl,h1G,hcG,hG,eG,oG,qG⟩
  refine ⟨_,rfl,fun c hc => by simp at hc,?_⟩
  simp -implicitDefEqProofs (maxDischargeDepth:=12) only [WI,seval,h1G,hcG]
  have oa:=((oH1.trans oA0).trans oH3).trans oG
  have ob:=((oH1.trans oA0).trans oH3)
  have o1a:=(oA0.trans oH3).trans oG
  refine wA_call rfl (wpF_ok ok64 ?_)
  have os1 : AV.ones [w1] = true:=by rw [os_cons,h1H1]; rfl
  have os2 : AV.ones [w2] = true:=by rw [os_cons,h1G]; rfl
  simp -implicitDefEqProofs (maxDischargeDepth:=12) only [tI_normal,wpF,cf64,WZ,seval,ev_fun,hcH1,hcG,h1H1,h1G,os1,os2]
  refine wpI_succ ?_
  simp -implicitDefEqProofs (maxDischargeDepth:=12) only [WZ,seval]
  have o3 : Only [] G (((G.alloc (.cells [w1])).alloc (.cells [w2])).alloc (.cells [.func (.func 460) [] []])):=by (repeat (first | exact Only.refl | refine Only.put ?_ (by first | (right; omega) | (left; exact List.mem_cons_self ..) | (left; simp [fpS])) | refine Only.alloc ?_))
  have lp:=cells_lt hG.cells
  have g4:=hG.only o3 (by simp) (by simp)
  have o3':=o3.mono (bs:=[p]) (fun b hb => by cases hb)
  have e4:=eG.p o3'
  refine wA_call rfl ((acc_no g4 e4 ht2 _ h2).mono ?_)
  rintro o H5 ⟨v,rfl,rfl,hH5,eH5,oH5⟩
  refine ⟨_,rfl,fun c hc => by simp at hc,?_⟩
  simp -implicitDefEqProofs (maxDischargeDepth:=12) only [WI,seval]
  refine wA_call rfl ((acc_no hH5 eH5 ht2 _ h3).mono ?_)
  rintro o H6 ⟨v,rfl,rfl,hH6,eH6,oH6⟩
  refine ⟨_,rfl,fun c hc => by simp at hc,?_⟩
  simp -implicitDefEqProofs (maxDischargeDepth:=12) only [WI,seval]
  refine wA_call rfl ((acc_no hH6 eH6 ht2 _ h4).mono ?_)
  rintro o H7 ⟨v,rfl,rfl,hH7,eH7,oH7⟩
  refine ⟨_,rfl,fun c hc => by simp at hc,?_⟩
  simp -implicitDefEqProofs (maxDischargeDepth:=12) only [WI,seval]
  have o57:=(oH5.trans oH6).trans oH7
  have n3:=oa.next
  have lpp:=cells_lt h.cells
  refine ⟨hH7,eH7,(oa.trans o3').trans o57,G.next,G.next + 1,G.next + 1 + 1,w1,w2,by omega,by omega,by omega,rfl,?_,?_,?_,q1.keep _ _ _ _ _ qH1 (o1a.trans (o3'.trans o57)) (fun b hb => by simp at hb; omega),q2.keep _ _ _ _ _ (q2.mono _ _ _ _ qG ob.next) (o3'.trans o57) (fun b hb => by simp at hb; omega)⟩
  · rw [(o57).cells _ (by simp only [AHeap.next_alloc]; omega) (by simp only [List.mem_singleton]; omega)]; simp -implicitDefEqProofs (maxDischargeDepth:=12) only [WZ,seval,show ¬ G.next = G.next + 1 + 1 by omega,show ¬ G.next = G.next + 1 by omega]
  · rw [(o57).cells _ (by simp only [AHeap.next_alloc]; omega) (by simp only [List.mem_singleton]; omega)]; simp -implicitDefEqProofs (maxDischargeDepth:=12) only [WZ,seval,show ¬ G.next + 1 = G.next + 1 + 1 by omega]
  · rw [(o57).cells _ (by simp only [AHeap.next_alloc]; omega) (by simp only [List.mem_singleton]; omega)]; simp -implicitDefEqProofs (maxDischargeDepth:=12) only [WZ,seval]
theorem product_rem (k1 : Lv 458 p BT toks N L bk bsc b0 kws vars i j Q1) (ht : toks[j]? = some t) (a0 : isB t ⟨#[42]⟩ = false) (a1 : isB t ⟨#[47]⟩ = false) (a2 : isB t ⟨#[92]⟩ = true) (k2 : Lv 458 p BT toks N L bk bsc b0 kws vars (j + 1) k Q2) (ht2 : toks[k]? = some t2) (h2 : isB t2 ⟨#[42]⟩ = false) (h3 : isB t2 ⟨#[47]⟩ = false) (h4 : isB t2 ⟨#[92]⟩ = false) (q1 : QOk Q1) (q2 : QOk Q2) :
    Lv 401 p BT toks N L bk bsc b0 kws vars i k (BinC 462 Q1 Q2):=by
  intro H h e
  refine wpF_ok ok401 ?_
  simp -implicitDefEqProofs (maxDischargeDepth:=12) only [wpF,cf401,WZ,seval]
  refine wA_call rfl ((k1 _ h e).mono ?_)
  rintro o H1 ⟨w1,rfl,h1H1,hcH1,hH1,eH1,oH1,qH1⟩
  refine ⟨_,rfl,fun c hc => by simp at hc,?_⟩
  simp -implicitDefEqProofs (maxDischargeDepth:=12) only [WI,seval,h1H1,hcH1]
  refine wp_unroll 3 ?_
  simp -implicitDefEqProofs (maxDischargeDepth:=12) only [WZ,seval]
  refine wA_call rfl ((acc_no hH1 eH1 ht _ a0).mono ?_)
  rintro o A0 ⟨v,rfl,rfl,hA0,eA0,oA0⟩
  refine ⟨_,rfl,fun c hc => by simp at hc,?_⟩
  simp -implicitDefEqProofs (maxDischargeDepth:=12) only [WI,seval]
  refine wA_call rfl ((acc_no hA0 eA0 ht _ a1).mono ?_)
  rintro o A1 ⟨v,rfl,rfl,hA1,eA1,oA1⟩
  refine ⟨_,rfl,fun c hc => by simp at hc,?_⟩
  simp -implicitDefEqProofs (maxDischargeDepth:=12) only [WI,seval]
  refine wA_call rfl ((acc_yes hA1 eA1 ht _ a2).mono ?_)
  rintro o H3 ⟨v,rfl,rfl,hH3,eH3,oH3⟩
  refine ⟨_,rfl,fun c hc => by simp at hc,?_⟩
  simp -implicitDefEqProofs (maxDischargeDepth:=12) only [WI,seval]
  refine wA_call rfl ((k2 _ hH3 eH3).mono ?_)
  rintro o G ⟨w2,rfl,h1G,hcG,hG,eG,oG,qG⟩
  refine ⟨_,rfl,fun c hc => by simp at hc,?_⟩
  simp -implicitDefEqProofs (maxDischargeDepth:=12) only [WI,seval,h1G,hcG]
  have oa:=(((oH1.trans oA0).trans oA1).trans oH3).trans oG
  have ob:=(((oH1.trans oA0).trans oA1).trans oH3)
  have o1a:=((oA0.trans oA1).trans oH3).trans oG
  refine wA_call rfl (wpF_ok ok64 ?_)
  have os1 : AV.ones [w1] = true:=by rw [os_cons,h1H1]; rfl
  have os2 : AV.ones [w2] = true:=by rw [os_cons,h1G]; rfl
  simp -implicitDefEqProofs (maxDischargeDepth:=12) only [tI_normal,wpF,cf64,WZ,seval,ev_fun,hcH1,hcG,h1H1,h1G,os1,os2]
  refine wpI_succ ?_
  simp -implicitDefEqProofs (maxDischargeDepth:=12) only [WZ,seval]
  have o3 : Only [] G (((G.alloc (.cells [w1])).alloc (.cells [w2])).alloc (.cells [.func (.func 462) [] []])):=by (repeat (first | exact Only.refl | refine Only.put ?_ (by first | (right; omega) | (left; exact List.mem_cons_self ..) | (left; simp [fpS])) | refine Only.alloc ?_))
  have lp:=cells_lt hG.cells
  have g4:=hG.only o3 (by simp) (by simp)
  have o3':=o3.mono (bs:=[p]) (fun b hb => by cases hb)
  have e4:=eG.p o3'
  refine wA_call rfl ((acc_no g4 e4 ht2 _ h2).mono ?_)
  rintro o H5 ⟨v,rfl,rfl,hH5,eH5,oH5⟩
  refine ⟨_,rfl,fun c hc => by simp at hc,?_⟩
  simp -implicitDefEqProofs (maxDischargeDepth:=12) only [WI,seval]
  refine wA_call rfl ((acc_no hH5 eH5 ht2 _ h3).mono ?_)
  rintro o H6 ⟨v,rfl,rfl,hH6,eH6,oH6⟩
  refine ⟨_,rfl,fun c hc => by simp at hc,?_⟩
  simp -implicitDefEqProofs (maxDischargeDepth:=12) only [WI,seval]
  refine wA_call rfl ((acc_no hH6 eH6 ht2 _ h4).mono ?_)
  rintro o H7 ⟨v,rfl,rfl,hH7,eH7,oH7⟩
  refine ⟨_,rfl,fun c hc => by simp at hc,?_⟩
  simp -implicitDefEqProofs (maxDischargeDepth:=12) only [WI,seval]
  have o57:=(oH5.trans oH6).trans oH7
  have n3:=oa.next
  have lpp:=cells_lt h.cells
  refine ⟨hH7,eH7,(oa.trans o3').trans o57,G.next,G.next + 1,G.next + 1 + 1,w1,w2,by omega,by omega,by omega,rfl,?_,?_,?_,q1.keep _ _ _ _ _ qH1 (o1a.trans (o3'.trans o57)) (fun b hb => by simp at hb; omega),q2.keep _ _ _ _ _ (q2.mono _ _ _ _ qG ob.next) (o3'.trans o57) (fun b hb => by simp at hb; omega)⟩
  · rw [(o57).cells _ (by simp only [AHeap.next_alloc]; omega) (by simp only [List.mem_singleton]; omega)]; simp -implicitDefEqProofs (maxDischargeDepth:=12) only [WZ,seval,show ¬ G.next = G.next + 1 + 1 by omega,show ¬ G.next = G.next + 1 by omega]
  · rw [(o57).cells _ (by simp only [AHeap.next_alloc]; omega) (by simp only [List.mem_singleton]; omega)]; simp -implicitDefEqProofs (maxDischargeDepth:=12) only [WZ,seval,show ¬ G.next + 1 = G.next + 1 + 1 by omega]
  · rw [(o57).cells _ (by simp only [AHeap.next_alloc]; omega) (by simp only [List.mem_singleton]; omega)]; simp -implicitDefEqProofs (maxDischargeDepth:=12) only [WZ,seval]
theorem both_and (k1 : Lv 132 p BT toks N L bk bsc b0 kws vars i j Q1) (ht : toks[j]? = some t) (h1 : isB t ⟨#[97,110,100]⟩ = true) (k2 : Lv 132 p BT toks N L bk bsc b0 kws vars (j + 1) k Q2) (ht2 : toks[k]? = some t2) (h2 : isB t2 ⟨#[97,110,100]⟩ = false) (q1 : QOk Q1) (q2 : QOk Q2) :
    Lv 63 p BT toks N L bk bsc b0 kws vars i k (BinC 133 Q1 Q2):=by
  intro H h e
  refine wpF_ok ok63 ?_
  simp -implicitDefEqProofs (maxDischargeDepth:=12) only [wpF,cf63,WZ,seval]
  refine wA_call rfl ((k1 _ h e).mono ?_)
  rintro o H1 ⟨w1,rfl,h1H1,hcH1,hH1,eH1,oH1,qH1⟩
  refine ⟨_,rfl,fun c hc => by simp at hc,?_⟩
  simp -implicitDefEqProofs (maxDischargeDepth:=12) only [WI,seval,h1H1,hcH1]
  refine wp_unroll 3 ?_
  simp -implicitDefEqProofs (maxDischargeDepth:=12) only [WZ,seval]
  refine wA_call rfl ((acc_yes hH1 eH1 ht _ h1).mono ?_)
  rintro o H3 ⟨v,rfl,rfl,hH3,eH3,oH3⟩
  refine ⟨_,rfl,fun c hc => by simp at hc,?_⟩
  simp -implicitDefEqProofs (maxDischargeDepth:=12) only [WI,seval]
  refine wA_call rfl ((k2 _ hH3 eH3).mono ?_)
  rintro o G ⟨w2,rfl,h1G,hcG,hG,eG,oG,qG⟩
  refine ⟨_,rfl,fun c hc => by simp at hc,?_⟩
  simp -implicitDefEqProofs (maxDischargeDepth:=12) only [WI,seval,h1G,hcG]
  have oa:=(oH1.trans oH3).trans oG
  have ob:=oH1.trans oH3
  have o1a:=oH3.trans oG
  refine wA_call rfl (wpF_ok ok64 ?_)
  have os1 : AV.ones [w1] = true:=by rw [os_cons,h1H1]; rfl
  have os2 : AV.ones [w2] = true:=by rw [os_cons,h1G]; rfl
  simp -implicitDefEqProofs (maxDischargeDepth:=12) only [tI_normal,wpF,cf64,WZ,seval,ev_fun,hcH1,hcG,h1H1,h1G,os1,os2]
  refine wpI_succ ?_
  simp -implicitDefEqProofs (maxDischargeDepth:=12) only [WZ,seval]
  have o3 : Only [] G (((G.alloc (.cells [w1])).alloc (.cells [w2])).alloc (.cells [.func (.func 133) [] []])):=by (repeat (first | exact Only.refl | refine Only.put ?_ (by first | (right; omega) | (left; exact List.mem_cons_self ..) | (left; simp [fpS])) | refine Only.alloc ?_))
  have lp:=cells_lt hG.cells
  have g4:=hG.only o3 (by simp) (by simp)
  have o3':=o3.mono (bs:=[p]) (fun b hb => by cases hb)
  have e4:=eG.p o3'
  refine wA_call rfl ((acc_no g4 e4 ht2 _ h2).mono ?_)
  rintro o H5 ⟨v,rfl,rfl,hH5,eH5,oH5⟩
  refine ⟨_,rfl,fun c hc => by simp at hc,?_⟩
  simp -implicitDefEqProofs (maxDischargeDepth:=12) only [WI,seval]
  have n3:=oa.next
  have lpp:=cells_lt h.cells
  refine ⟨hH5,eH5,(oa.trans o3').trans oH5,G.next,G.next + 1,G.next + 1 + 1,w1,w2,by omega,by omega,by omega,rfl,?_,?_,?_,q1.keep _ _ _ _ _ qH1 (o1a.trans (o3'.trans oH5)) (fun b hb => by simp at hb; omega),q2.keep _ _ _ _ _ (q2.mono _ _ _ _ qG ob.next) (o3'.trans oH5) (fun b hb => by simp at hb; omega)⟩
  · rw [(oH5).cells _ (by simp only [AHeap.next_alloc]; omega) (by simp only [List.mem_singleton]; omega)]; simp -implicitDefEqProofs (maxDischargeDepth:=12) only [WZ,seval,show ¬ G.next = G.next + 1 + 1 by omega,show ¬ G.next = G.next + 1 by omega]
  · rw [(oH5).cells _ (by simp only [AHeap.next_alloc]; omega) (by simp only [List.mem_singleton]; omega)]; simp -implicitDefEqProofs (maxDischargeDepth:=12) only [WZ,seval,show ¬ G.next + 1 = G.next + 1 + 1 by omega]
  · rw [(oH5).cells _ (by simp only [AHeap.next_alloc]; omega) (by simp only [List.mem_singleton]; omega)]; simp -implicitDefEqProofs (maxDischargeDepth:=12) only [WZ,seval]
end
end Go.Hem
namespace Go.Hem
def NegC (Q : Nat→AV→AHeap→Prop) (lo : Nat) (v : AV) (H : AHeap) : Prop:=∃ b w,lo ≤ b∧v = .func (.func 509) [] [.ptr b 0]∧H.cells b = some [w]∧Q lo w H
theorem NegC.ok {Q : Nat→AV→AHeap→Prop} (k : QOk Q) : QOk (NegC Q) :=
  ⟨fun _ _ _ _ _ ⟨b,w,h1,h2,h3,q⟩ o hl => ⟨b,w,h1,h2,keep1 h1 h3 o hl,k.keep _ _ _ _ _ q o hl⟩,fun _ _ _ _ ⟨b,w,h1,h2,h3,q⟩ hm => ⟨b,w,by omega,h2,h3,k.mono _ _ _ _ q hm⟩⟩
def CmpC (f : FuncId) (Q1 Q2 : Nat→AV→AHeap→Prop) (lo : Nat) (v : AV) (H : AHeap) : Prop:=∃ b1 b2 b3 b4 v1 v2,lo ≤ b1∧lo ≤ b2∧lo ≤ b3∧lo ≤ b4∧v = .func (.func 134) [] [.ptr b1 0,.ptr b2 0,.ptr b3 0] ∧
  H.cells b1 = some [v1]∧H.cells b2 = some [v2]∧H.cells b3 = some [.func (.func 319) [] [.ptr b4 0]]∧H.cells b4 = some [.func (.func f) [] []]∧Q1 lo v1 H∧Q2 lo v2 H
theorem CmpC.ok {f : FuncId} {Q1 Q2 : Nat→AV→AHeap→Prop} (k1 : QOk Q1) (k2 : QOk Q2) : QOk (CmpC f Q1 Q2) :=
  ⟨fun _ _ _ _ _ ⟨b1,b2,b3,b4,v1,v2,n1,n2,n3,n4,e,c1,c2,c3,c4,q1,q2⟩ o hl => ⟨b1,b2,b3,b4,v1,v2,n1,n2,n3,n4,e,keep1 n1 c1 o hl,keep1 n2 c2 o hl,keep1 n3 c3 o hl,keep1 n4 c4 o hl,k1.keep _ _ _ _ _ q1 o hl,k2.keep _ _ _ _ _ q2 o hl⟩,
   fun _ _ _ _ ⟨b1,b2,b3,b4,v1,v2,n1,n2,n3,n4,e,c1,c2,c3,c4,q1,q2⟩ hm => ⟨b1,b2,b3,b4,v1,v2,by omega,by omega,by omega,by omega,e,c1,c2,c3,c4,k1.mono _ _ _ _ q1 hm,k2.mono _ _ _ _ q2 hm⟩⟩
section
variable {p BT : Nat} {toks : List TkD} {N L : Int} {bk bsc b0 : Nat} {kws vars : List ByteArray} {i j k : Nat} {Q Q1 Q2 : Nat→AV→AHeap→Prop} {t t2 : TkD}
theorem unary_neg (ht : toks[i]? = some t) (h1 : isB t ⟨#[45]⟩ = true) (k : Lv 458 p BT toks N L bk bsc b0 kws vars (i + 1) j Q) (hQ : QOk Q) : Lv 458 p BT toks N L bk bsc b0 kws vars i j (NegC Q):=by
  intro H h e
  refine wpF_ok ok458 ?_
  simp -implicitDefEqProofs (maxDischargeDepth:=12) only [wpF,cf458,WZ,seval]
  refine wA_call rfl ((acc_yes h e ht _ h1).mono ?_)
  rintro o H1 ⟨v,rfl,rfl,hH1,eH1,oH1⟩
  refine ⟨_,rfl,fun c hc => by simp at hc,?_⟩
  simp -implicitDefEqProofs (maxDischargeDepth:=12) only [WI,seval]
  refine wA_call rfl ((k _ hH1 eH1).mono ?_)
  rintro o G ⟨w,rfl,h1G,hcG,hG,eG,oG,qG⟩
  refine ⟨_,rfl,fun c hc => by simp at hc,?_⟩
  simp -implicitDefEqProofs (maxDischargeDepth:=12) only [WI,seval,h1G,hcG]
  have os : AV.ones [w] = true:=by rw [os_cons,h1G]; rfl
  have o3 : Only [] G ((G.alloc (.cells [.sc .nilf])).put G.next (some (.cells [w]))):=by (repeat (first | exact Only.refl | refine Only.put ?_ (by first | (right; omega) | (left; exact List.mem_cons_self ..) | (left; simp [fpS])) | refine Only.alloc ?_))
  have lp:=cells_lt hG.cells
  have o3':=o3.mono (bs:=[p]) (fun b hb => by cases hb)
  have oa:=oH1.trans oG
  have n3:=oa.next
  have lpp:=cells_lt h.cells
  exact ⟨hG.only o3 (by simp) (by simp),eG.p o3',oa.trans o3',G.next,w,n3,rfl,by simp -implicitDefEqProofs (maxDischargeDepth:=12) only [WZ,seval],hQ.keep _ _ _ _ _ (hQ.mono _ _ _ _ qG oH1.next) o3' (fun b hb => by simp at hb; omega)⟩
theorem pair_no2 {H : AHeap} {x : TkD} (h : PSt p BT toks i N L (.slice bsc 0 1 1 1) (.map bk) H) (e : PEn p bk bsc b0 kws vars H) (ht : toks[i]? = some t) (s s2 : ByteArray) (hs : isB t s = true) (hx : toks[i + 1]? = some x) (h2 : (x.tx.toList == s2.toList) = false) :
    Ev prog polW (.call 312 [.ptr p 0,.sc (.str s),.sc (.str s2)]) H fun o H' => ∃ v,o = .val v∧v = .sc (.bool false)∧PSt p BT toks i N L (.slice bsc 0 1 1 1) (.map bk) H'∧PEn p bk bsc b0 kws vars H'∧Only [p] H H':=by
  refine wpF_ok ok312 ?_
  simp -implicitDefEqProofs (maxDischargeDepth:=12) only [wpF,cf312,WZ,seval]
  refine wA_call rfl ((is_ev h ht s).mono ?_)
  rintro o H1 ⟨v,rfl,rfl,ho⟩
  refine ⟨_,rfl,fun c hc => by simp at hc,?_⟩
  have g1:=h.only ho (by simp) (by simp)
  have o1 : Only [p] H H1:=ho.mono (fun b hb => by cases hb)
  have hp:=g1.cells
  have hb:=g1.tb
  have hw:=wrapA h ht
  have hi : i + 1 < toks.length:=(List.getElem?_eq_some_iff.1 hx).1
  obtain ⟨hc1,hc2⟩:=cutTk hx
  have lb:=cells_lt hb
  have n2 : ¬ BT = H1.next:=by omega
  have ho2 : Only [] H1 ((H1.alloc (.cells [.sc (.int .i64 0),.sc (.str ⟨#[]⟩),.sc (.int .i64 0),.sc (.str ⟨#[]⟩),.sc (.int .i64 0),.sc (.int .i64 0),.sc (.bool false)])).put H1.next (some (.cells x.cells))):=by (repeat (first | exact Only.refl | refine Only.put ?_ (by first | (right; omega) | (left; exact List.mem_cons_self ..) | (left; simp [fpS])) | refine Only.alloc ?_))
  unfold TkD.cells at ho2
  have o2:=ho2.mono (bs:=[p]) (fun b hb => by cases hb)
  by_cases c4 : x.k = 4
  · rw [c4] at ho2 o2
    simp -implicitDefEqProofs (maxDischargeDepth:=12) only [WZ,seval,hs,hp,hb,hw,hi,hc1,hc2,n2,TkD.cells,c4,h2]
    exact ⟨g1.only ho2 (by simp) (by simp),(e.p o1).p o2,o1.trans o2⟩
  · simp -implicitDefEqProofs (maxDischargeDepth:=12) only [WZ,seval,hs,hp,hb,hw,hi,hc1,hc2,n2,TkD.cells,c4]
    exact ⟨g1.only ho2 (by simp) (by simp),(e.p o1).p o2,o1.trans o2⟩
theorem pair_yes {H : AHeap} {x : TkD} (h : PSt p BT toks i N L (.slice bsc 0 1 1 1) (.map bk) H) (e : PEn p bk bsc b0 kws vars H) (ht : toks[i]? = some t) (s s2 : ByteArray) (hs : isB t s = true) (hx : toks[i + 1]? = some x) (c4 : x.k = 4) (h2 : (x.tx.toList == s2.toList) = true) (hj : x.j = true) :
    Ev prog polW (.call 312 [.ptr p 0,.sc (.str s),.sc (.str s2)]) H fun o H' => ∃ v,o = .val v∧v = .sc (.bool true)∧PSt p BT toks (i + 2) N L (.slice bsc 0 1 1 1) (.map bk) H'∧PEn p bk bsc b0 kws vars H'∧Only [p] H H':=by
  refine wpF_ok ok312 ?_
  simp -implicitDefEqProofs (maxDischargeDepth:=12) only [wpF,cf312,WZ,seval]
  refine wA_call rfl ((is_ev h ht s).mono ?_)
  rintro o H1 ⟨v,rfl,rfl,ho⟩
  refine ⟨_,rfl,fun c hc => by simp at hc,?_⟩
  have g1:=h.only ho (by simp) (by simp)
  have o1 : Only [p] H H1:=ho.mono (fun b hb => by cases hb)
  have hp:=g1.cells
  have hb:=g1.tb
  have hw:=wrapA h ht
  have hi : i + 1 < toks.length:=(List.getElem?_eq_some_iff.1 hx).1
  have hsm:=h.sm
  have hw2 : IntKind.i64.wrap ((i : Int) + 2) = ((i + 2 : Nat) : Int):=by rw [w64 (by omega) (by omega)]; omega
  obtain ⟨hc1,hc2⟩:=cutTk hx
  have lb:=cells_lt hb
  have lp:=cells_lt hp
  have n2 : ¬ BT = H1.next:=by omega
  have n1 : ¬ p = H1.next:=by omega
  have n4 : ¬ H1.next = p:=by omega
  have n5 : ¬ BT = p:=fun q => g1.ne q.symm
  have ho2 : Only [] H1 ((H1.alloc (.cells [.sc (.int .i64 0),.sc (.str ⟨#[]⟩),.sc (.int .i64 0),.sc (.str ⟨#[]⟩),.sc (.int .i64 0),.sc (.int .i64 0),.sc (.bool false)])).put H1.next (some (.cells x.cells))):=by (repeat (first | exact Only.refl | refine Only.put ?_ (by first | (right; omega) | (left; exact List.mem_cons_self ..) | (left; simp [fpS])) | refine Only.alloc ?_))
  have g2:=g1.only ho2 (by simp) (by simp)
  unfold TkD.cells at ho2 g2
  have o2:=ho2.mono (bs:=[p]) (fun b hb => by cases hb)
  rw [c4,hj] at ho2 o2 g2
  have e2:=(e.p o1).p o2
  simp -implicitDefEqProofs (maxDischargeDepth:=12) only [WZ,seval,hs,hp,hb,hw,hw2,hi,hc1,hc2,n1,n2,n4,TkD.cells,c4,h2,hj]
  have hp2:=g2.cells
  have hb2:=g2.tb
  refine (fun (oz : Only [p] _ _) => ⟨⟨by simp -implicitDefEqProofs (maxDischargeDepth:=12) only [WZ,seval,hp2,hp,n1],?_,g2.ne,g2.sm⟩,e2.p oz,(o1.trans o2).trans oz⟩) (by (repeat (first | exact Only.refl | refine Only.put ?_ (by first | (right; omega) | (left; exact List.mem_cons_self ..) | (left; simp [fpS])) | refine Only.alloc ?_)))
  simp -implicitDefEqProofs (maxDischargeDepth:=12) only [WZ,seval,hp2,hb2,hp,hb,n1,n2,n5]
end
end Go.Hem
namespace Go.Hem
section
variable {p BT : Nat} {toks : List TkD} {N L : Int} {bk bsc b0 : Nat} {kws vars : List ByteArray} {i j k : Nat} {Q Q1 Q2 : Nat→AV→AHeap→Prop} {t t2 : TkD}
theorem comparison_lt {x : TkD} (k1 : Lv 311 p BT toks N L bk bsc b0 kws vars i j Q1) (ht : toks[j]? = some t) (h1 : isB t ⟨#[61]⟩ = false) (h2 : isB t ⟨#[33]⟩ = false) (h3 : isB t ⟨#[60]⟩ = true) (h4 : isB t ⟨#[62]⟩ = false) (hx : toks[j + 1]? = some x) (h5 : (x.tx.toList == (⟨#[61]⟩ : ByteArray).toList) = false)
    (k2 : Lv 311 p BT toks N L bk bsc b0 kws vars (j + 1) k Q2) (q1 : QOk Q1) (q2 : QOk Q2) : Lv 215 p BT toks N L bk bsc b0 kws vars i k (CmpC 317 Q1 Q2):=by
  intro H h e
  refine wpF_ok ok215 ?_
  simp -implicitDefEqProofs (maxDischargeDepth:=12) only [wpF,cf215,WZ,seval]
  refine wA_call rfl ((k1 _ h e).mono ?_)
  rintro o H1 ⟨w1,rfl,h1H1,hcH1,hH1,eH1,oH1,qH1⟩
  refine ⟨_,rfl,fun c hc => by simp at hc,?_⟩
  simp -implicitDefEqProofs (maxDischargeDepth:=12) only [WI,seval,h1H1,hcH1]
  have ho2 : Only [] H1 (H1.alloc (.cells [.sc .nilf])):=by (repeat (first | exact Only.refl | refine Only.put ?_ (by first | (right; omega) | (left; exact List.mem_cons_self ..) | (left; simp [fpS])) | refine Only.alloc ?_))
  have g2:=hH1.only ho2 (by simp) (by simp)
  have o2:=ho2.mono (bs:=[p]) (fun b hb => by cases hb)
  have e2:=eH1.p o2
  have x2 : (H1.alloc (.cells [.sc .nilf])).cells H1.next = some [.sc .nilf]:=by simp -implicitDefEqProofs (maxDischargeDepth:=12) only [WZ,seval]
  have n2 : H1.next < (H1.alloc (.cells [.sc .nilf])).next:=by simp
  have lp1:=cells_lt hH1.cells
  have lb1:=cells_lt hH1.tb
  have lm1:=map_lt eH1.mw
  have l01:=map_lt eH1.m0
  have ls1:=cells_lt eH1.sc
  generalize (H1.alloc (.cells [.sc .nilf])) = H2 at ho2 g2 o2 e2 x2 n2 ⊢
  refine wA_call rfl ((pair_no g2 e2 ht _ _ h1).mono ?_)
  rintro o H5 ⟨v,rfl,rfl,hH5,eH5,oH5⟩
  refine ⟨_,rfl,fun c hc => by simp at hc,?_⟩
  simp -implicitDefEqProofs (maxDischargeDepth:=12) only [WZ,seval]
  refine wA_call rfl ((pair_no hH5 eH5 ht _ _ h2).mono ?_)
  rintro o H6 ⟨v,rfl,rfl,hH6,eH6,oH6⟩
  refine ⟨_,rfl,fun c hc => by simp at hc,?_⟩
  simp -implicitDefEqProofs (maxDischargeDepth:=12) only [WZ,seval]
  refine wA_call rfl ((pair_no2 hH6 eH6 ht _ _ h3 hx h5).mono ?_)
  rintro o H7 ⟨v,rfl,rfl,hH7,eH7,oH7⟩
  refine ⟨_,rfl,fun c hc => by simp at hc,?_⟩
  simp -implicitDefEqProofs (maxDischargeDepth:=12) only [WZ,seval]
  refine wA_call rfl ((pair_no hH7 eH7 ht _ _ h4).mono ?_)
  rintro o H8 ⟨v,rfl,rfl,hH8,eH8,oH8⟩
  refine ⟨_,rfl,fun c hc => by simp at hc,?_⟩
  simp -implicitDefEqProofs (maxDischargeDepth:=12) only [WZ,seval]
  refine wA_call rfl ((acc_yes hH8 eH8 ht _ h3).mono ?_)
  rintro o A ⟨v,rfl,rfl,hA,eA,oA⟩
  refine ⟨_,rfl,fun c hc => by simp at hc,?_⟩
  simp -implicitDefEqProofs (maxDischargeDepth:=12) only [WI,seval]
  have oA : Only [p] H2 A:=(((oH5.trans oH6).trans oH7).trans oH8).trans oA
  have x9:=(oA.cells H1.next n2 (by simp; omega)).trans x2
  simp -implicitDefEqProofs (maxDischargeDepth:=12) only [WZ,seval,x9,ev_fun,c_func,o_func]
  have ho3 : Only [H1.next] A (A.put H1.next (some (.cells [.func (.func 317) [] []]))):=by (repeat (first | exact Only.refl | refine Only.put ?_ (by first | (right; omega) | (left; exact List.mem_cons_self ..) | (left; simp [fpS])) | refine Only.alloc ?_))
  have g3:=hA.only ho3 (by simp; omega) (by simp; omega)
  have e3:=eA.only ho3 (by simp; omega) (by simp; omega) (by simp; omega)
  have x3 : (A.put H1.next (some (.cells [.func (.func 317) [] []]))).cells H1.next = some [.func (.func 317) [] []]:=by simp -implicitDefEqProofs (maxDischargeDepth:=12) only [WZ,seval,x9]
  have nA:=oA.next
  generalize (A.put H1.next (some (.cells [.func (.func 317) [] []]))) = H3 at ho3 g3 e3 x3 ⊢
  refine wA_call rfl ((k2 _ g3 e3).mono ?_)
  rintro o G ⟨w2,rfl,h1G,hcG,hG,eG,oG,qG⟩
  refine ⟨_,rfl,fun c hc => by simp at hc,?_⟩
  simp -implicitDefEqProofs (maxDischargeDepth:=12) only [WI,seval,h1G,hcG]
  refine wA_call rfl (wpF_ok ok64 ?_)
  have os1 : AV.ones [w1] = true:=by rw [os_cons,h1H1]; rfl
  have os2 : AV.ones [w2] = true:=by rw [os_cons,h1G]; rfl
  simp -implicitDefEqProofs (maxDischargeDepth:=12) only [tI_normal,wpF,cf64,WZ,seval,ev_fun,hcH1,hcG,h1H1,h1G,os1,os2]
  have xG:=(oG.cells H1.next (cells_lt x3) (by simp; omega)).trans x3
  have lG:=cells_lt xG
  have o4 : Only [] G (((G.alloc (.cells [w1])).alloc (.cells [w2])).alloc (.cells [.func (.func 319) [] [.ptr H1.next 0]])):=by (repeat (first | exact Only.refl | refine Only.put ?_ (by first | (right; omega) | (left; exact List.mem_cons_self ..) | (left; simp [fpS])) | refine Only.alloc ?_))
  have o4':=o4.mono (bs:=[p]) (fun b hb => by cases hb)
  have lpp:=cells_lt h.cells
  have n1:=oH1.next
  have n3:=ho3.next
  have nG:=oG.next
  have oc : Only [p,H1.next] H1 G:=(((o2.trans oA).mono (fun b hb => by simp at hb ⊢; exact .inl hb)).then ho3 (fun b hb => .inl (by simp at hb ⊢; exact .inr hb))).then oG (fun b hb => .inl (by simp at hb ⊢; exact .inl hb))
  have oc2 : Only [p] H1 G:=((o2.trans oA).then ho3 (fun b hb => by simp at hb; right; omega)).trans oG
  refine ⟨hG.only o4 (by simp) (by simp),eG.p o4',(oH1.trans oc2).trans o4',G.next,G.next + 1,G.next + 1 + 1,H1.next,w1,w2,by omega,by omega,by omega,by omega,rfl,?_,?_,?_,?_,q1.keep _ _ _ _ _ qH1 (oc2.trans o4') (fun b hb => by simp at hb; omega),q2.keep _ _ _ _ _ (q2.mono _ _ _ _ qG (by have:=ho2.next; omega)) o4' (fun b hb => by simp at hb; omega)⟩
  · simp -implicitDefEqProofs (maxDischargeDepth:=12) only [WZ,seval,show ¬ G.next = G.next + 1 + 1 by omega,show ¬ G.next = G.next + 1 by omega]
  · simp -implicitDefEqProofs (maxDischargeDepth:=12) only [WZ,seval,show ¬ G.next + 1 = G.next + 1 + 1 by omega]
  · simp -implicitDefEqProofs (maxDischargeDepth:=12) only [WZ,seval]
  · rw [o4.cells _ lG (by simp)]; exact xG
theorem comparison_eq {x : TkD} (k1 : Lv 311 p BT toks N L bk bsc b0 kws vars i j Q1) (ht : toks[j]? = some t) (h1 : isB t ⟨#[61]⟩ = true) (hx : toks[j + 1]? = some x) (c4 : x.k = 4) (h5 : (x.tx.toList == (⟨#[61]⟩ : ByteArray).toList) = true) (hj : x.j = true)
    (k2 : Lv 311 p BT toks N L bk bsc b0 kws vars (j + 2) k Q2) (q1 : QOk Q1) (q2 : QOk Q2) : Lv 215 p BT toks N L bk bsc b0 kws vars i k (CmpC 313 Q1 Q2):=by
  intro H h e
  refine wpF_ok ok215 ?_
  simp -implicitDefEqProofs (maxDischargeDepth:=12) only [wpF,cf215,WZ,seval]
  refine wA_call rfl ((k1 _ h e).mono ?_)
  rintro o H1 ⟨w1,rfl,h1H1,hcH1,hH1,eH1,oH1,qH1⟩
  refine ⟨_,rfl,fun c hc => by simp at hc,?_⟩
  simp -implicitDefEqProofs (maxDischargeDepth:=12) only [WI,seval,h1H1,hcH1]
  have ho2 : Only [] H1 (H1.alloc (.cells [.sc .nilf])):=by (repeat (first | exact Only.refl | refine Only.put ?_ (by first | (right; omega) | (left; exact List.mem_cons_self ..) | (left; simp [fpS])) | refine Only.alloc ?_))
  have g2:=hH1.only ho2 (by simp) (by simp)
  have o2:=ho2.mono (bs:=[p]) (fun b hb => by cases hb)
  have e2:=eH1.p o2
  have x2 : (H1.alloc (.cells [.sc .nilf])).cells H1.next = some [.sc .nilf]:=by simp -implicitDefEqProofs (maxDischargeDepth:=12) only [WZ,seval]
  have n2 : H1.next < (H1.alloc (.cells [.sc .nilf])).next:=by simp
  have lp1:=cells_lt hH1.cells
  have lb1:=cells_lt hH1.tb
  have lm1:=map_lt eH1.mw
  have l01:=map_lt eH1.m0
  have ls1:=cells_lt eH1.sc
  generalize (H1.alloc (.cells [.sc .nilf])) = H2 at ho2 g2 o2 e2 x2 n2 ⊢
  refine wA_call rfl ((pair_yes g2 e2 ht _ _ h1 hx c4 h5 hj).mono ?_)
  rintro o A ⟨v,rfl,rfl,hA,eA,oA⟩
  refine ⟨_,rfl,fun c hc => by simp at hc,?_⟩
  simp -implicitDefEqProofs (maxDischargeDepth:=12) only [WZ,seval]
  have x9:=(oA.cells H1.next n2 (by simp; omega)).trans x2
  simp -implicitDefEqProofs (maxDischargeDepth:=12) only [WZ,seval,x9,ev_fun,c_func,o_func]
  have ho3 : Only [H1.next] A (A.put H1.next (some (.cells [.func (.func 313) [] []]))):=by (repeat (first | exact Only.refl | refine Only.put ?_ (by first | (right; omega) | (left; exact List.mem_cons_self ..) | (left; simp [fpS])) | refine Only.alloc ?_))
  have g3:=hA.only ho3 (by simp; omega) (by simp; omega)
  have e3:=eA.only ho3 (by simp; omega) (by simp; omega) (by simp; omega)
  have x3 : (A.put H1.next (some (.cells [.func (.func 313) [] []]))).cells H1.next = some [.func (.func 313) [] []]:=by simp -implicitDefEqProofs (maxDischargeDepth:=12) only [WZ,seval,x9]
  have nA:=oA.next
  generalize (A.put H1.next (some (.cells [.func (.func 313) [] []]))) = H3 at ho3 g3 e3 x3 ⊢
  refine wA_call rfl ((k2 _ g3 e3).mono ?_)
  rintro o G ⟨w2,rfl,h1G,hcG,hG,eG,oG,qG⟩
  refine ⟨_,rfl,fun c hc => by simp at hc,?_⟩
  simp -implicitDefEqProofs (maxDischargeDepth:=12) only [WI,seval,h1G,hcG]
  refine wA_call rfl (wpF_ok ok64 ?_)
  have os1 : AV.ones [w1] = true:=by rw [os_cons,h1H1]; rfl
  have os2 : AV.ones [w2] = true:=by rw [os_cons,h1G]; rfl
  simp -implicitDefEqProofs (maxDischargeDepth:=12) only [tI_normal,wpF,cf64,WZ,seval,ev_fun,hcH1,hcG,h1H1,h1G,os1,os2]
  have xG:=(oG.cells H1.next (cells_lt x3) (by simp; omega)).trans x3
  have lG:=cells_lt xG
  have o4 : Only [] G (((G.alloc (.cells [w1])).alloc (.cells [w2])).alloc (.cells [.func (.func 319) [] [.ptr H1.next 0]])):=by (repeat (first | exact Only.refl | refine Only.put ?_ (by first | (right; omega) | (left; exact List.mem_cons_self ..) | (left; simp [fpS])) | refine Only.alloc ?_))
  have o4':=o4.mono (bs:=[p]) (fun b hb => by cases hb)
  have lpp:=cells_lt h.cells
  have n1:=oH1.next
  have n3:=ho3.next
  have nG:=oG.next
  have oc : Only [p,H1.next] H1 G:=(((o2.trans oA).mono (fun b hb => by simp at hb ⊢; exact .inl hb)).then ho3 (fun b hb => .inl (by simp at hb ⊢; exact .inr hb))).then oG (fun b hb => .inl (by simp at hb ⊢; exact .inl hb))
  have oc2 : Only [p] H1 G:=((o2.trans oA).then ho3 (fun b hb => by simp at hb; right; omega)).trans oG
  refine ⟨hG.only o4 (by simp) (by simp),eG.p o4',(oH1.trans oc2).trans o4',G.next,G.next + 1,G.next + 1 + 1,H1.next,w1,w2,by omega,by omega,by omega,by omega,rfl,?_,?_,?_,?_,q1.keep _ _ _ _ _ qH1 (oc2.trans o4') (fun b hb => by simp at hb; omega),q2.keep _ _ _ _ _ (q2.mono _ _ _ _ qG (by have:=ho2.next; omega)) o4' (fun b hb => by simp at hb; omega)⟩
  · simp -implicitDefEqProofs (maxDischargeDepth:=12) only [WZ,seval,show ¬ G.next = G.next + 1 + 1 by omega,show ¬ G.next = G.next + 1 by omega]
  · simp -implicitDefEqProofs (maxDischargeDepth:=12) only [WZ,seval,show ¬ G.next + 1 = G.next + 1 + 1 by omega]
  · simp -implicitDefEqProofs (maxDischargeDepth:=12) only [WZ,seval]
  · rw [o4.cells _ lG (by simp)]; exact xG
end
end Go.Hem
set_option maxRecDepth 100000
namespace Go.Hem
def Stm1 (p BT : Nat) (toks : List TkD) (N L : Int) (bk bsc b0 : Nat) (kws vars : List ByteArray) (i j : Nat) (Q : Nat→AV→AHeap→Prop) : Prop :=
  ∀ H,PSt p BT toks i N L (.slice bsc 0 1 1 1) (.map bk) H→PEn p bk bsc b0 kws vars H→Ev prog polW (.call 16 [.ptr p 0]) H fun o H' => ∃ v,o = .val v∧AV.one v = true∧v.cells = [v] ∧
    ∃ N' L' SC',PSt p BT toks j N' L' SC' (.map bk) H'∧Only [p,b0,bsc] H H'∧Q H.next v H'
theorem Stm.one {p BT : Nat} {toks : List TkD} {N L : Int} {bk bsc b0 : Nat} {kws vars vars' : List ByteArray} {i j : Nat} {Q : Nat→AV→AHeap→Prop} (h : Stm p BT toks N L bk bsc b0 kws vars i j vars' Q) : Stm1 p BT toks N L bk bsc b0 kws vars i j Q :=
  fun H h1 h2 => (h H h1 h2).mono fun o H' ⟨v,a1,a2,a3,a4,a5,a6,a7⟩ => ⟨v,a1,a2,a3,N,L,_,a4,a6.mono (fun b hb => by simp at hb ⊢; rcases hb with rfl | rfl <;> simp),a7⟩
theorem Parse_one (s : ByteArray) (hs : s.size ≤ 16384) (l : List Pc) (hl : s.data.toList = textOf l) (hok : pcsOk l = true) {i1 : Nat} {Q : Nat→AV→AHeap→Prop} {t0 te : TkD} (hQ : QOk Q)
    (s1 : ∀ p BT bk bsc b0,Stm1 p BT (toksD 0 true l) 0 0 bk bsc b0 kwL [] 0 i1 Q)
    (ht0 : (toksD 0 true l)[0]? = some t0) (hk0 : ¬ t0.k = 0) (hte : (toksD 0 true l)[i1]? = some te) (hke : te.k = 0) (H : AHeap) :
    Ev prog polW (.call 6 [.sc (.str s)]) H fun o H' => ∃ v,o = .val v∧∃ bo TK bl w,v = .tup [.ptr bo 0,.sc (.int .i64 0),.sc (.int .i64 0),.sc (.int .i64 0)]∧H'.cells bo = some [TK,.slice bl 0 1 1 1]∧H'.cells bl = some [w]∧Q H.next w H':=by
  have c1 : ¬ (16384 : Int) < (s.size : Int):=by omega
  refine wpF_ok ok6 ?_
  simp -implicitDefEqProofs (maxDischargeDepth:=12) only [wpF,cf6,WZ,seval,c1,gt_iff_lt,s_mkmap,o_map,c_map,h_allocm]
  refine wA_call rfl ((Scan_ev s hs l hl hok _).mono ?_)
  rintro o H1 ⟨v,rfl,BT,rfl,hBT,ho1,hle⟩
  refine ⟨_,rfl,fun c hc => by simp at hc,?_⟩
  simp only [AHeap.next_alloc] at hle
  have q1 : ¬ H.next + 1 = H.next + 1 + 1:=by omega
  have q2 : ¬ H.next + 1 = H.next + 1 + 1 + 1:=by omega
  have q3 : ¬ H.next + 1 + 1 = H.next + 1 + 1 + 1:=by omega
  have q4 : ¬ H.next = H.next + 1 + 1 + 1:=by omega
  have q5 : ¬ H.next = H.next + 1 + 1:=by omega
  have q6 : ¬ H.next = H.next + 1:=by omega
  have gp:=ho1.cells (H.next + 1 + 1 + 1) (by simp only [AHeap.next_alloc]; omega) (by simp)
  have gs:=ho1.cells (H.next + 1) (by simp only [AHeap.next_alloc]; omega) (by simp)
  have gk:=ho1.map (H.next + 1 + 1) (by simp only [AHeap.next_alloc]; omega) (by simp)
  have g0:=ho1.map H.next (by simp only [AHeap.next_alloc]; omega) (by simp)
  simp -implicitDefEqProofs (maxDischargeDepth:=12) only [WZ,seval,h_allocm,q1,q2,q3,q4,q5,q6] at gp gs
  rw [map_alloc (by simp),map_allocm,if_pos (by simp)] at gk
  rw [map_alloc (by simp only [AHeap.next_alloc]; omega),map_allocm,if_neg (by simp only [AHeap.next_alloc]; omega),map_alloc (by simp),map_allocm,if_pos rfl] at g0
  have n1:=ho1.next
  simp only [AHeap.next_alloc] at n1
  simp -implicitDefEqProofs (maxDischargeDepth:=12) only [WZ,seval,gp]
  have lBT:=cells_lt hBT
  have lp:=cells_lt gp
  have m1 : ¬ BT = H.next + 1 + 1 + 1:=by omega
  have o2 : Only [H.next + 1 + 1 + 1] H1 (H1.put (H.next + 1 + 1 + 1) (some (.cells [.slice BT 0 (l.length + 1) (l.length + 1) 7,.sc (.int .i64 0),.sc (.int .i64 0),.sc (.int .i64 0),.slice (H.next + 1) 0 1 1 1,.map (H.next + 1 + 1),.sc (.int .i64 0),.sc (.int .i64 0),.sc (.int .i64 0)]))):=by (repeat (first | exact Only.refl | refine Only.put ?_ (by first | (right; omega) | (left; exact List.mem_cons_self ..) | (left; simp [fpS])) | refine Only.alloc ?_))
  have g2 : PSt (H.next + 1 + 1 + 1) BT (toksD 0 true l) 0 0 0 (.slice (H.next + 1) 0 1 1 1) (.map (H.next + 1 + 1)) (H1.put (H.next + 1 + 1 + 1) (some (.cells [.slice BT 0 (l.length + 1) (l.length + 1) 7,.sc (.int .i64 0),.sc (.int .i64 0),.sc (.int .i64 0),.slice (H.next + 1) 0 1 1 1,.map (H.next + 1 + 1),.sc (.int .i64 0),.sc (.int .i64 0),.sc (.int .i64 0)]))):=by
    refine ⟨?_,?_,by omega,?_⟩
    · rw [toksD_length]; simp -implicitDefEqProofs (maxDischargeDepth:=12) only [WZ,seval,gp]
    · rw [← toksD_eq]; simp -implicitDefEqProofs (maxDischargeDepth:=12) only [WZ,seval,gp,hBT,m1]
    · rw [toksD_length]; have:=ba_size s; rw [hl] at this; have:=pcs_len l hok; omega
  have e2 : PEn (H.next + 1 + 1 + 1) (H.next + 1 + 1) (H.next + 1) H.next [] [] (H1.put (H.next + 1 + 1 + 1) (some (.cells [.slice BT 0 (l.length + 1) (l.length + 1) 7,.sc (.int .i64 0),.sc (.int .i64 0),.sc (.int .i64 0),.slice (H.next + 1) 0 1 1 1,.map (H.next + 1 + 1),.sc (.int .i64 0),.sc (.int .i64 0),.sc (.int .i64 0)]))) :=
    (show PEn (H.next + 1 + 1 + 1) (H.next + 1 + 1) (H.next + 1) H.next [] [] H1 from ⟨gk,gs,g0,by omega,by omega,by omega,by omega⟩).p o2
  have lps:=cells_lt g2.cells
  generalize (H1.put (H.next + 1 + 1 + 1) (some (.cells [.slice BT 0 (l.length + 1) (l.length + 1) 7,.sc (.int .i64 0),.sc (.int .i64 0),.sc (.int .i64 0),.slice (H.next + 1) 0 1 1 1,.map (H.next + 1 + 1),.sc (.int .i64 0),.sc (.int .i64 0),.sc (.int .i64 0)]))) = H2 at g2 e2 lps ⊢
  refine wA_pure rfl kwW_pv ?_
  simp -implicitDefEqProofs (maxDischargeDepth:=12) only [WZ,seval,kw_len]
  have kl : kwL.length = 33:=rfl
  refine wp_loop (Inv:=fun k t H' => ∃ i : Nat,i + k = 33∧PSt (H.next + 1 + 1 + 1) BT (toksD 0 true l) 0 0 0 (.slice (H.next + 1) 0 1 1 1) (.map (H.next + 1 + 1)) H'∧PEn (H.next + 1 + 1 + 1) (H.next + 1 + 1) (H.next + 1) H.next (kwL.take i) [] H' ∧
    ∃ x : Nat→AV,t = [.sc (.str s),x 1,.sc .nilp,.sc (.int .i64 0),.sc (.int .i64 0),.sc (.int .i64 0),.ptr (H.next + 1 + 1 + 1) 0,x 7,x 8,x 9,x 10,x 11,x 12,x 13,x 14,x 15,x 16,x 17,x 18,x 19,x 20,x 21,x 22,x 23,x 24,x 25,x 26,x 27,x 28,x 29,x 30,x 31,kwVal,.sc (.int .i64 33),.sc (.int .i64 (i : Int)),x 35,x 36,x 37,x 38,x 39,x 40,x 41,x 42,x 43,x 44,x 45,x 46,x 47,x 48,x 49,x 50,x 51,x 52,x 53,x 54,x 55,x 56,x 57,x 58,x 59,x 60,x 61,x 62,x 63,x 64,x 65,x 66,x 67,x 68,x 69,x 70,x 71,x 72,x 73,x 74,x 75,x 76,x 77,x 78,x 79,x 80,x 81,x 82,x 83,x 84,x 85,x 86,x 87,x 88,x 89]) (k:=33) ?_ ⟨0,rfl,g2,e2,ex_x rfl⟩
  rintro k t H3 ⟨i,hk,g3,e3,x,rfl⟩
  by_cases c0 : i < 33
  · have c2 : (i : Int) < 33:=by omega
    obtain ⟨w,hw,hnew,htake⟩:=kw_step c0
    obtain ⟨z,hz,hr⟩:=kw_elem hw
    have hp3:=g3.cells
    have hpt:=putW e3.mw hnew
    simp -implicitDefEqProofs (maxDischargeDepth:=12) only [WZ,seval,c2,hz,hr,hp3,s_mpup,hpt,wA_memM,wrap1 c0 (show 33 < 2 ^ 31 by omega)]
    have o4 : Only [H.next + 1 + 1] H3 (H3.put (H.next + 1 + 1) (some (.map (wmap (kwL.take i ++ [w]))))):=by (repeat (first | exact Only.refl | refine Only.put ?_ (by first | (right; omega) | (left; exact List.mem_cons_self ..) | (left; simp [fpS])) | refine Only.alloc ?_))
    have nb : BT ≠ H.next + 1 + 1:=fun q => by have:=map_cells e3.mw; rw [← q,g3.tb] at this; cases this
    exact ⟨k - 1,by omega,i + 1,by omega,g3.only o4 (by simp) (by simpa using nb),by rw [← htake]; exact e3.putk,ex_x rfl⟩
  · have c2 : ¬ (i : Int) < 33:=by omega
    obtain rfl : i = 33:=by omega
    rw [show kwL.take 33 = kwL from rfl] at e3
    have hp3:=g3.cells
    simp -implicitDefEqProofs (maxDischargeDepth:=12) only [WZ,seval,c2,hp3]
    rw [← toksD_length l 0 true] at *
    have o4 : Only [] H3 (H3.alloc (.cells [.slice BT 0 (toksD 0 true l).length (toksD 0 true l).length 7,.sc .nils])):=by (repeat (first | exact Only.refl | refine Only.put ?_ (by first | (right; omega) | (left; exact List.mem_cons_self ..) | (left; simp [fpS])) | refine Only.alloc ?_))
    have g4:=g3.only o4 (by simp) (by simp)
    have e4:=e3.only o4 (by simp) (by simp) (by simp)
    have lp3:=cells_lt hp3
    have l03:=map_lt e3.m0
    have x4 : (H3.alloc (.cells [.slice BT 0 (toksD 0 true l).length (toksD 0 true l).length 7,.sc .nils])).cells H3.next = some [.slice BT 0 (toksD 0 true l).length (toksD 0 true l).length 7,.sc .nils]:=by simp -implicitDefEqProofs (maxDischargeDepth:=12) only [WZ,seval]
    have n4 : H3.next < (H3.alloc (.cells [.slice BT 0 (toksD 0 true l).length (toksD 0 true l).length 7,.sc .nils])).next:=by simp
    generalize (H3.alloc (.cells [.slice BT 0 (toksD 0 true l).length (toksD 0 true l).length 7,.sc .nils])) = H4 at g4 e4 x4 n4 ⊢
    have hp4:=g4.cells
    refine wp_unroll 3 ?_
    simp -implicitDefEqProofs (maxDischargeDepth:=12) only [WZ,seval,hp4]
    refine wA_call rfl ((peek_ev g4 ht0).mono ?_)
    rintro o H5 ⟨v,rfl,rfl,ho5⟩
    refine ⟨_,rfl,fun c hc => by simp at hc,?_⟩
    have g5:=g4.only ho5 (by simp) (by simp)
    have e5:=e4.only ho5 (by simp) (by simp) (by simp)
    have x5:=(ho5.cells _ n4 (by simp)).trans x4
    have n5:=ho5.next
    simp -implicitDefEqProofs (maxDischargeDepth:=12) only [WZ,seval,TkD.cells,hk0,x5]
    refine wA_call rfl (((s1 _ _ _ _ _) H5 g5 e5).mono ?_)
    rintro o H6 ⟨w1,rfl,hw1,hc1,N6,L6,SC6,g6,o6,hq6⟩
    have ls3:=cells_lt e3.sc
    have x6:=(o6.cells H3.next (by omega) (by simp; omega)).trans x5
    refine ⟨_,rfl,fun c hc => ?_,?_⟩
    · simp at hc; subst hc; simp -implicitDefEqProofs (maxDischargeDepth:=12) only [WZ,seval,x5,x6]
    have n6:=o6.next
    have os1 : AV.ones [w1] = true:=by rw [os_cons,hw1]; rfl
    have nx6 : ¬ H3.next = H6.next:=by omega
    simp -implicitDefEqProofs (maxDischargeDepth:=12) only [WZ,seval,hw1,hc1,os1,x6,nx6]
    rw [appn_nil (n:=1) (bytes:=16) (H:=H6.alloc (.cells [w1])) (b':=H6.next) (xs:=[w1]) (by simp -implicitDefEqProofs (maxDischargeDepth:=12) only [WZ,seval]) rfl (by decide)]
    have nx7 : ¬ H3.next = H6.next + 1:=by omega
    simp -implicitDefEqProofs (maxDischargeDepth:=12) only [tI_normal,WZ,seval,x6,nx6,nx7]
    have lp6:=cells_lt g6.cells
    have lb6:=cells_lt g6.tb
    have lbt3:=cells_lt g3.tb
    have o7 : Only [H3.next] H6 (((H6.alloc (.cells [w1])).alloc (.cells [w1])).put H3.next (some (.cells [.slice BT 0 (toksD 0 true l).length (toksD 0 true l).length 7,.slice (H6.next + 1) 0 1 1 1]))):=by (repeat (first | exact Only.refl | refine Only.put ?_ (by first | (right; omega) | (left; exact List.mem_cons_self ..) | (left; simp [fpS])) | refine Only.alloc ?_))
    have g7:=g6.only o7 (by simp; omega) (by simp; omega)
    have q7:=hQ.keep _ _ _ _ _ hq6 o7 (fun b hb => by simp at hb; omega)
    have x7 : (((H6.alloc (.cells [w1])).alloc (.cells [w1])).put H3.next (some (.cells [.slice BT 0 (toksD 0 true l).length (toksD 0 true l).length 7,.slice (H6.next + 1) 0 1 1 1]))).cells H3.next = some [.slice BT 0 (toksD 0 true l).length (toksD 0 true l).length 7,.slice (H6.next + 1) 0 1 1 1]:=by simp -implicitDefEqProofs (maxDischargeDepth:=12) only [WZ,seval,x6,nx6,nx7]
    have y7 : (((H6.alloc (.cells [w1])).alloc (.cells [w1])).put H3.next (some (.cells [.slice BT 0 (toksD 0 true l).length (toksD 0 true l).length 7,.slice (H6.next + 1) 0 1 1 1]))).cells (H6.next + 1) = some [w1]:=by simp -implicitDefEqProofs (maxDischargeDepth:=12) only [WZ,seval,x6,nx6,nx7,show ¬ H6.next + 1 = H3.next by omega]
    have n7 : H6.next + 1 < (((H6.alloc (.cells [w1])).alloc (.cells [w1])).put H3.next (some (.cells [.slice BT 0 (toksD 0 true l).length (toksD 0 true l).length 7,.slice (H6.next + 1) 0 1 1 1]))).next:=by simp
    generalize (((H6.alloc (.cells [w1])).alloc (.cells [w1])).put H3.next (some (.cells [.slice BT 0 (toksD 0 true l).length (toksD 0 true l).length 7,.slice (H6.next + 1) 0 1 1 1]))) = H7 at o7 g7 x7 y7 n7 q7 ⊢
    have hp7:=g7.cells
    refine wpI_succ ?_
    simp -implicitDefEqProofs (maxDischargeDepth:=12) only [WZ,seval,hp7]
    refine wA_call rfl ((peek_ev g7 hte).mono ?_)
    rintro o H8 ⟨v,rfl,rfl,ho8⟩
    refine ⟨_,rfl,fun c hc => by simp at hc,?_⟩
    have g8:=g7.only ho8 (by simp) (by simp)
    have hp8:=g8.cells
    have x8:=(ho8.cells _ (cells_lt x7) (by simp)).trans x7
    have y8:=(ho8.cells _ n7 (by simp)).trans y7
    have q8:=hQ.keep _ _ _ _ _ q7 ho8 (fun b hb => by cases hb)
    simp -implicitDefEqProofs (maxDischargeDepth:=12) only [tI_exit,WZ,seval,TkD.cells,hke,hp8]
    exact ⟨_,rfl,H3.next,_,H6.next + 1,w1,rfl,x8,y8,hQ.mono _ _ _ _ q8 (by omega)⟩
end Go.Hem
set_option maxRecDepth 10000
namespace Go.Hem
section
variable {p BT : Nat} {toks : List TkD} {N L : Int} {bk bsc b0 : Nat} {kws vars : List ByteArray} {i j : Nat} {H : AHeap}
end
def RepC (Q : Nat → AV → AHeap → Prop) (lo : Nat) (v : AV) (H : AHeap) : Prop := ∃ T b w, lo ≤ b ∧ v = .iface T (.ptr b 0) ∧ amethod prog T "hemiola/script.exec" = some 632 ∧ H.cells b = some [w, .sc .nils] ∧ Q lo w H
theorem RepC.ok {Q : Nat→AV→AHeap→Prop} (k : QOk Q) : QOk (RepC Q) :=
  ⟨fun _ _ _ _ _ ⟨T,b,w,h1,h2,hi,h3,q⟩ o hl => ⟨T,b,w,h1,h2,hi,keep1 h1 h3 o hl,k.keep _ _ _ _ _ q o hl⟩,fun _ _ _ _ ⟨T,b,w,h1,h2,hi,h3,q⟩ hm => ⟨T,b,w,by omega,h2,hi,h3,k.mono _ _ _ _ q hm⟩⟩
section
variable {p BT : Nat} {toks : List TkD} {N L : Int} {bk bsc b0 : Nat} {kws vars : List ByteArray} {i j : Nat}
end
end Go.Hem
namespace Go.Hem
def MSt (m : Nat) (a0 a1 a2 a3 a4 a5 a6 a7 : AV) (st : Nat) (OUT SCP ITS : AV) (e : Int) (H : AHeap) : Prop :=
  H.cells m = some [a0,a1,a2,a3,a4,a5,a6,a7,.sc .nils,.sc (.str ⟨#[]⟩),.sc (.int .i64 (st : Int)),OUT,SCP,ITS,.sc (.int .i64 e)]
theorem MSt.only {m : Nat} {a0 a1 a2 a3 a4 a5 a6 a7 : AV} {st : Nat} {OUT SCP ITS : AV} {e : Int} {H H' : AHeap} (h : MSt m a0 a1 a2 a3 a4 a5 a6 a7 st OUT SCP ITS e H) (o : Only [] H H') : MSt m a0 a1 a2 a3 a4 a5 a6 a7 st OUT SCP ITS e H':=by
  unfold MSt at h ⊢; rw [o.cells m (cells_lt h) (by simp)]; exact h
section
variable {m : Nat} {a0 a1 a2 a3 a4 a5 a6 a7 : AV} {st : Nat} {OUT SCP ITS : AV} {e : Int} {H : AHeap}
theorem step_yes (h : MSt m a0 a1 a2 a3 a4 a5 a6 a7 st OUT SCP ITS 0 H) (hst : st < 4096) : Ev prog polW (.call 47 [.ptr m 0]) H fun o H' => ∃ v,o = .val v∧v = .sc (.bool true)∧MSt m a0 a1 a2 a3 a4 a5 a6 a7 (st + 1) OUT SCP ITS 0 H'∧Only [m] H H':=by
  have hp : H.cells m = _:=h
  have c1 : ¬ (st : Int) = 4096:=by omega
  have hw : IntKind.i64.wrap ((st : Int) + 1) = ((st + 1 : Nat) : Int):=by rw [w64 (by omega) (by omega)]; omega
  refine wpF_ok ok47 ?_
  simp -implicitDefEqProofs (maxDischargeDepth:=12) only [wpF,cf47,WZ,seval,hp,c1,hw]
  refine ⟨?_,by (repeat (first | exact Only.refl | refine Only.put ?_ (by first | (right; omega) | (left; exact List.mem_cons_self ..) | (left; simp [fpS])) | refine Only.alloc ?_))⟩
  unfold MSt
  simp -implicitDefEqProofs (maxDischargeDepth:=12) only [WZ,seval,hp]
theorem mfail_ev (h : MSt m a0 a1 a2 a3 a4 a5 a6 a7 st OUT SCP ITS 0 H) (n : Int) : Ev prog polW (.call 104 [.ptr m 0,.sc (.int .i64 n)]) H fun o H' => ∃ v,o = .val v∧v = .tup []∧MSt m a0 a1 a2 a3 a4 a5 a6 a7 st OUT SCP ITS n H'∧Only [m] H H':=by
  have hp : H.cells m = _:=h
  refine wpF_ok ok104 ?_
  simp -implicitDefEqProofs (maxDischargeDepth:=12) only [wpF,cf104,WZ,seval,hp,cr_nil]
  refine ⟨?_,by (repeat (first | exact Only.refl | refine Only.put ?_ (by first | (right; omega) | (left; exact List.mem_cons_self ..) | (left; simp [fpS])) | refine Only.alloc ?_))⟩
  unfold MSt
  simp -implicitDefEqProofs (maxDischargeDepth:=12) only [WZ,seval,hp]
theorem bounded_in (h : MSt m a0 a1 a2 a3 a4 a5 a6 a7 st OUT SCP ITS 0 H) (n : Int) (h1 : ¬ n < -1099511627776) (h2 : ¬ 1099511627776 < n) : Ev prog polW (.call 135 [.ptr m 0,.sc (.int .i64 n)]) H fun o H' => ∃ v,o = .val v∧v = .sc (.int .i64 n)∧H' = H:=by
  refine wpF_ok ok135 ?_
  simp -implicitDefEqProofs (maxDischargeDepth:=12) only [wpF,cf135,WZ,seval,h1,h2,gt_iff_lt]
theorem bounded_out (h : MSt m a0 a1 a2 a3 a4 a5 a6 a7 st OUT SCP ITS 0 H) (n : Int) (h1 : n < -1099511627776 ∨ 1099511627776 < n) : Ev prog polW (.call 135 [.ptr m 0,.sc (.int .i64 n)]) H fun o H' => ∃ v,o = .val v∧v = .sc (.int .i64 0)∧MSt m a0 a1 a2 a3 a4 a5 a6 a7 st OUT SCP ITS 14 H'∧Only [m] H H':=by
  refine wpF_ok ok135 ?_
  by_cases c1 : n < -1099511627776
  · simp -implicitDefEqProofs (maxDischargeDepth:=12) only [wpF,cf135,WZ,seval,c1,gt_iff_lt]
    refine wA_call rfl ((mfail_ev h 14).mono ?_)
    rintro o H1 ⟨v,rfl,rfl,h1,o1⟩
    refine ⟨_,rfl,fun c hc => by simp at hc,?_⟩
    simp -implicitDefEqProofs (maxDischargeDepth:=12) only [WZ,seval]
    exact ⟨h1,o1⟩
  · have c2 : 1099511627776 < n:=by omega
    simp -implicitDefEqProofs (maxDischargeDepth:=12) only [wpF,cf135,WZ,seval,c1,c2,gt_iff_lt]
    refine wA_call rfl ((mfail_ev h 14).mono ?_)
    rintro o H1 ⟨v,rfl,rfl,h1,o1⟩
    refine ⟨_,rfl,fun c hc => by simp at hc,?_⟩
    simp -implicitDefEqProofs (maxDischargeDepth:=12) only [WZ,seval]
    exact ⟨h1,o1⟩
end
def Evals (Q : Nat→AV→AHeap→Prop) (n : Int) : Prop:=∀ lo w H m a0 a1 a2 a3 a4 a5 a6 a7 st OUT SCP ITS,Q lo w H→MSt m a0 a1 a2 a3 a4 a5 a6 a7 st OUT SCP ITS 0 H →
  ∃ f args,callvOf prog w [.ptr m 0] = some (.call f args)∧polW.pure f = false∧Ev prog polW (.call f args) H fun o H' => ∃ v,o = .val v∧v = .sc (.int .i64 n)∧Only [] H H'
theorem callee_primary2 (args : List AV) : acallee prog 551 args = some (.call 551 args):=acB_spec ac551 args
theorem callee_binary1 (args : List AV) : acallee prog 134 args = some (.call 134 args):=acB_spec ac134 args
theorem num_evals (n : Int) : Evals (NumC n) n:=by
  rintro lo w H m a0 a1 a2 a3 a4 a5 a6 a7 st OUT SCP ITS ⟨b,h1,rfl,h3⟩ hm
  refine ⟨_,_,(by rw [e_callf,callee_primary2]),(show polW.pure 551 = false from rfl),?_⟩
  refine wpF_ok ok551 ?_
  simp -implicitDefEqProofs (maxDischargeDepth:=12) only [wpF,cf551,WZ,seval,h3]
  exact Only.refl
def OpIs (f : FuncId) (a b c : Int) : Prop:=(∀ args,acallee prog f args = some (.call f args))∧polW.pure f = false∧∀ H m a0 a1 a2 a3 a4 a5 a6 a7 st OUT SCP ITS,MSt m a0 a1 a2 a3 a4 a5 a6 a7 st OUT SCP ITS 0 H →
  Ev prog polW (.call f [.ptr m 0,.sc (.int .i64 a),.sc (.int .i64 b)]) H fun o H' => ∃ v,o = .val v∧v = .sc (.int .i64 c)∧Only [] H H'
theorem bin_evals {f : FuncId} {Q1 Q2 : Nat→AV→AHeap→Prop} {a b c : Int} (k1 : Evals Q1 a) (k2 : Evals Q2 b) (q2 : QOk Q2) (hf : OpIs f a b c) (h1 : ¬ c < -1099511627776) (h2 : ¬ 1099511627776 < c) : Evals (BinC f Q1 Q2) c:=by
  rintro lo w H m a0 a1 a2 a3 a4 a5 a6 a7 st OUT SCP ITS ⟨b1,b2,b3,v1,v2,n1,n2,n3,rfl,x1,x2,x3,p1,p2⟩ hm
  refine ⟨_,_,(by rw [e_callf,callee_binary1]),(show polW.pure 134 = false from rfl),?_⟩
  refine wpF_ok ok134 ?_
  obtain ⟨f1,as1,hc1,hp1,e1⟩:=k1 lo v1 H m _ _ _ _ _ _ _ _ _ _ _ _ p1 hm
  simp -implicitDefEqProofs (maxDischargeDepth:=12) only [wpF,cf134,WZ,seval,x1,hc1]
  refine wA_call hp1 (e1.mono ?_)
  rintro o H1 ⟨v,rfl,rfl,o1⟩
  refine ⟨_,rfl,fun c hc => by simp at hc,?_⟩
  have y2:=(o1.cells b2 (cells_lt x2) (by simp)).trans x2
  have y3:=(o1.cells b3 (cells_lt x3) (by simp)).trans x3
  have hm1:=hm.only o1
  obtain ⟨f2,as2,hc2,hp2,e2⟩:=k2 lo v2 H1 m _ _ _ _ _ _ _ _ _ _ _ _ (q2.keep _ _ _ _ _ p2 o1 (fun b hb => by cases hb)) hm1
  simp -implicitDefEqProofs (maxDischargeDepth:=12) only [WZ,seval,y2,hc2]
  refine wA_call hp2 (e2.mono ?_)
  rintro o H2 ⟨v,rfl,rfl,o2⟩
  refine ⟨_,rfl,fun c hc => by simp at hc,?_⟩
  have z3:=(o2.cells b3 (cells_lt y3) (by simp)).trans y3
  have hm2:=hm1.only o2
  have hx2 : H2.cells m = _:=hm2
  simp -implicitDefEqProofs (maxDischargeDepth:=12) only [WZ,seval,hx2,z3,e_callf,hf.1]
  refine wA_call hf.2.1 ((hf.2.2 _ _ _ _ _ _ _ _ _ _ _ _ _ _ hm2).mono ?_)
  rintro o H3 ⟨v,rfl,rfl,o3⟩
  refine ⟨_,rfl,fun c hc => by simp at hc,?_⟩
  simp -implicitDefEqProofs (maxDischargeDepth:=12) only [WZ,seval]
  refine wA_call rfl ((bounded_in (hm2.only o3) c h1 h2).mono ?_)
  rintro o H4 ⟨v,rfl,rfl,rfl⟩
  refine ⟨_,rfl,fun c hc => by simp at hc,?_⟩
  simp -implicitDefEqProofs (maxDischargeDepth:=12) only [WZ,seval]
  exact (o1.trans o2).trans o3
end Go.Hem
namespace Go.Hem
theorem sum1_is (a b : Int) (h1 : -9223372036854775808 ≤ a + b) (h2 : a + b ≤ 9223372036854775807) : OpIs 402 a b (a + b):=by
  refine ⟨fun args => acB_spec ac402 args,rfl,?_⟩
  rintro H m a0 a1 a2 a3 a4 a5 a6 a7 st OUT SCP ITS hm
  refine wpF_ok ok402 ?_
  simp -implicitDefEqProofs (maxDischargeDepth:=12) only [wpF,cf402,WZ,seval,w64 h1 h2]
  exact Only.refl
theorem sum2_is (a b : Int) (h1 : -9223372036854775808 ≤ a - b) (h2 : a - b ≤ 9223372036854775807) : OpIs 403 a b (a - b):=by
  refine ⟨fun args => acB_spec ac403 args,rfl,?_⟩
  rintro H m a0 a1 a2 a3 a4 a5 a6 a7 st OUT SCP ITS hm
  refine wpF_ok ok403 ?_
  simp -implicitDefEqProofs (maxDischargeDepth:=12) only [wpF,cf403,WZ,seval,w64 h1 h2]
  exact Only.refl
theorem e_quo64 {a b : Int} (hb : ¬ b = 0) : bintOf .quo (.sc (.int .i64 a)) (.sc (.int .i64 b)) = some (.sc (.int .i64 (IntKind.i64.wrap (a.tdiv b)))):=by
  unfold bintOf; simp [hb]
theorem e_rem64 {a b : Int} (hb : ¬ b = 0) : bintOf .rem (.sc (.int .i64 a)) (.sc (.int .i64 b)) = some (.sc (.int .i64 (a.tmod b))):=by
  unfold bintOf; simp [hb]
theorem e_neg {P : Program} {t : List AV} {o : Oper} {T : TypeId} {x : Operand} {n : Int} (ho : o.op = .unOp .neg T x) (hx : aev t x = .sc (.int .i64 n)) : aclosed P t o = some (.val (.sc (.int .i64 (IntKind.i64.wrap (0 - n))))):=by
  refine aclosed_of (v:=.int .i64 (IntKind.i64.wrap (0 - n))) ?_ ?_ rfl
  · simp [allClosed,ho,Op.operands,(closed_sc hx).2]
  · unfold execOp; simp only [ho,(closed_sc hx).1]; rfl
section
variable {m : Nat} {a0 a1 a2 a3 a4 a5 a6 a7 : AV} {st : Nat} {OUT SCP ITS : AV} {e : Int} {H : AHeap}
theorem divides_yes (b : Int) (hb : ¬ b = 0) (h : MSt m a0 a1 a2 a3 a4 a5 a6 a7 st OUT SCP ITS 0 H) : Ev prog polW (.call 461 [.ptr m 0,.sc (.int .i64 b)]) H fun o H' => ∃ v,o = .val v∧v = .sc (.bool true)∧H' = H:=by
  refine wpF_ok ok461 ?_
  simp -implicitDefEqProofs (maxDischargeDepth:=12) only [wpF,cf461,WZ,seval,hb]
theorem divides_no (h : MSt m a0 a1 a2 a3 a4 a5 a6 a7 st OUT SCP ITS 0 H) : Ev prog polW (.call 461 [.ptr m 0,.sc (.int .i64 0)]) H fun o H' => ∃ v,o = .val v∧v = .sc (.bool false)∧MSt m a0 a1 a2 a3 a4 a5 a6 a7 st OUT SCP ITS 15 H'∧Only [m] H H':=by
  refine wpF_ok ok461 ?_
  simp -implicitDefEqProofs (maxDischargeDepth:=12) only [wpF,cf461,WZ,seval]
  refine wA_call rfl ((mfail_ev h 15).mono ?_)
  rintro o H1 ⟨v,rfl,rfl,h1,o1⟩
  refine ⟨_,rfl,fun c hc => by simp at hc,?_⟩
  simp -implicitDefEqProofs (maxDischargeDepth:=12) only [WZ,seval]
  exact ⟨h1,o1⟩
theorem quo_zero (a : Int) (h : MSt m a0 a1 a2 a3 a4 a5 a6 a7 st OUT SCP ITS 0 H) : Ev prog polW (.call 460 [.ptr m 0,.sc (.int .i64 a),.sc (.int .i64 0)]) H fun o H' => ∃ v,o = .val v∧v = .sc (.int .i64 0)∧MSt m a0 a1 a2 a3 a4 a5 a6 a7 st OUT SCP ITS 15 H'∧Only [m] H H':=by
  refine wpF_ok ok460 ?_
  simp -implicitDefEqProofs (maxDischargeDepth:=12) only [wpF,cf460,WZ,seval]
  refine wA_call rfl ((divides_no h).mono ?_)
  rintro o H1 ⟨v,rfl,rfl,h1,o1⟩
  refine ⟨_,rfl,fun c hc => by simp at hc,?_⟩
  simp -implicitDefEqProofs (maxDischargeDepth:=12) only [WZ,seval]
  exact ⟨h1,o1⟩
theorem rem_zero (a : Int) (h : MSt m a0 a1 a2 a3 a4 a5 a6 a7 st OUT SCP ITS 0 H) : Ev prog polW (.call 462 [.ptr m 0,.sc (.int .i64 a),.sc (.int .i64 0)]) H fun o H' => ∃ v,o = .val v∧v = .sc (.int .i64 0)∧MSt m a0 a1 a2 a3 a4 a5 a6 a7 st OUT SCP ITS 15 H'∧Only [m] H H':=by
  refine wpF_ok ok462 ?_
  simp -implicitDefEqProofs (maxDischargeDepth:=12) only [wpF,cf462,WZ,seval]
  refine wA_call rfl ((divides_no h).mono ?_)
  rintro o H1 ⟨v,rfl,rfl,h1,o1⟩
  refine ⟨_,rfl,fun c hc => by simp at hc,?_⟩
  simp -implicitDefEqProofs (maxDischargeDepth:=12) only [WZ,seval]
  exact ⟨h1,o1⟩
end
theorem quo_is (a b : Int) (hb : ¬ b = 0) (h1 : -9223372036854775808 ≤ a.tdiv b) (h2 : a.tdiv b ≤ 9223372036854775807) : OpIs 460 a b (a.tdiv b):=by
  refine ⟨fun args => acB_spec ac460 args,rfl,?_⟩
  rintro H m a0 a1 a2 a3 a4 a5 a6 a7 st OUT SCP ITS hm
  refine wpF_ok ok460 ?_
  simp -implicitDefEqProofs (maxDischargeDepth:=12) only [wpF,cf460,WZ,seval]
  refine wA_call rfl ((divides_yes b hb hm).mono ?_)
  rintro o H1 ⟨v,rfl,rfl,rfl⟩
  refine ⟨_,rfl,fun c hc => by simp at hc,?_⟩
  simp -implicitDefEqProofs (maxDischargeDepth:=12) only [WZ,seval,e_quo64 hb,w64 h1 h2]
  exact Only.refl
theorem rem_is (a b : Int) (hb : ¬ b = 0) : OpIs 462 a b (a.tmod b):=by
  refine ⟨fun args => acB_spec ac462 args,rfl,?_⟩
  rintro H m a0 a1 a2 a3 a4 a5 a6 a7 st OUT SCP ITS hm
  refine wpF_ok ok462 ?_
  simp -implicitDefEqProofs (maxDischargeDepth:=12) only [wpF,cf462,WZ,seval]
  refine wA_call rfl ((divides_yes b hb hm).mono ?_)
  rintro o H1 ⟨v,rfl,rfl,rfl⟩
  refine ⟨_,rfl,fun c hc => by simp at hc,?_⟩
  simp -implicitDefEqProofs (maxDischargeDepth:=12) only [WZ,seval,e_rem64 hb]
  exact Only.refl
theorem truth_ev (c : Bool) (H : AHeap) : Ev prog polW (.call 66 [.sc (.bool c)]) H fun o H' => ∃ v,o = .val v∧v = .sc (.int .i64 (if c then 1 else 0))∧H' = H:=by
  refine wpF_ok ok66 ?_
  cases c <;> simp -implicitDefEqProofs (maxDischargeDepth:=12) only [wpF,cf66,WZ,seval,if_true,Bool.false_eq_true,if_false]
end Go.Hem
namespace Go.Hem
theorem callee_unary1 (args : List AV) : acallee prog 509 args = some (.call 509 args):=acB_spec ac509 args
theorem neg_evals {Q : Nat→AV→AHeap→Prop} {n : Int} (k : Evals Q n) (h1 : -9223372036854775807 ≤ n) (h2 : n ≤ 9223372036854775807) : Evals (NegC Q) (-n):=by
  rintro lo w H m a0 a1 a2 a3 a4 a5 a6 a7 st OUT SCP ITS ⟨b,v1,n1,rfl,x1,q⟩ hm
  refine ⟨_,_,(by rw [e_callf,callee_unary1]),(show polW.pure 509 = false from rfl),?_⟩
  refine wpF_ok ok509 ?_
  obtain ⟨f1,as1,hc1,hp1,e1⟩:=k lo v1 H m _ _ _ _ _ _ _ _ _ _ _ _ q hm
  have hw : IntKind.i64.wrap (0 - n) = -n:=by rw [w64 (by omega) (by omega)]; omega
  simp -implicitDefEqProofs (maxDischargeDepth:=12) only [wpF,cf509,WZ,seval,x1,hc1]
  refine wA_call hp1 (e1.mono ?_)
  rintro o H1 ⟨v,rfl,rfl,o1⟩
  refine ⟨_,rfl,fun c hc => by simp at hc,?_⟩
  simp -implicitDefEqProofs (maxDischargeDepth:=12) only [WZ,seval]
  rw [e_neg (n:=n) rfl rfl,hw]
  simp -implicitDefEqProofs (maxDischargeDepth:=12) only [WZ,seval]
  exact o1
theorem both1_is (a b : Int) : OpIs 133 a b (if a ≠ 0∧b ≠ 0 then 1 else 0):=by
  refine ⟨fun args => acB_spec ac133 args,rfl,?_⟩
  rintro H m a0 a1 a2 a3 a4 a5 a6 a7 st OUT SCP ITS hm
  refine wpF_ok ok133 ?_
  by_cases ca : a = 0
  · simp -implicitDefEqProofs (maxDischargeDepth:=12) only [wpF,cf133,WZ,seval,ca]
    refine wA_call rfl ((truth_ev false H).mono ?_)
    rintro o H1 ⟨v,rfl,rfl,rfl⟩
    refine ⟨_,rfl,fun c hc => by simp at hc,?_⟩
    simp -implicitDefEqProofs (maxDischargeDepth:=12) only [WZ,seval,if_false,ne_eq,Bool.false_eq_true]
    exact Only.refl
  · by_cases cb : b = 0
    · simp -implicitDefEqProofs (maxDischargeDepth:=12) only [wpF,cf133,WZ,seval,ca,cb]
      refine wA_call rfl ((truth_ev false H).mono ?_)
      rintro o H1 ⟨v,rfl,rfl,rfl⟩
      refine ⟨_,rfl,fun c hc => by simp at hc,?_⟩
      simp -implicitDefEqProofs (maxDischargeDepth:=12) only [WZ,seval,if_false,ne_eq,Bool.false_eq_true]
      exact Only.refl
    · simp -implicitDefEqProofs (maxDischargeDepth:=12) only [wpF,cf133,WZ,seval,ca,cb]
      refine wA_call rfl ((truth_ev true H).mono ?_)
      rintro o H1 ⟨v,rfl,rfl,rfl⟩
      refine ⟨_,rfl,fun c hc => by simp at hc,?_⟩
      simp -implicitDefEqProofs (maxDischargeDepth:=12) only [WZ,seval,if_true,ne_eq,ca,cb]
      exact Only.refl
def CmpIs (f : FuncId) (a b : Int) (c : Bool) : Prop:=(∀ args,acallee prog f args = some (.call f args))∧polW.pure f = false∧∀ H,
  Ev prog polW (.call f [.sc (.int .i64 a),.sc (.int .i64 b)]) H fun o H' => ∃ v,o = .val v∧v = .sc (.bool c)∧H' = H
theorem cmplt_is (a b : Int) : CmpIs 317 a b (decide (a < b)):=by
  refine ⟨fun args => acB_spec ac317 args,rfl,fun H => ?_⟩
  refine wpF_ok ok317 ?_
  simp -implicitDefEqProofs (maxDischargeDepth:=12) only [wpF,cf317,WZ,seval]
theorem cmpeq_is (a b : Int) : CmpIs 313 a b (decide (a = b)):=by
  refine ⟨fun args => acB_spec ac313 args,rfl,fun H => ?_⟩
  refine wpF_ok ok313 ?_
  simp -implicitDefEqProofs (maxDischargeDepth:=12) only [wpF,cf313,WZ,seval]
theorem callee_cmp7 (args : List AV) : acallee prog 319 args = some (.call 319 args):=acB_spec ac319 args
theorem cmp_evals {f : FuncId} {Q1 Q2 : Nat→AV→AHeap→Prop} {a b : Int} {c : Bool} (k1 : Evals Q1 a) (k2 : Evals Q2 b) (q2 : QOk Q2) (hf : CmpIs f a b c) : Evals (CmpC f Q1 Q2) (if c then 1 else 0):=by
  rintro lo w H m a0 a1 a2 a3 a4 a5 a6 a7 st OUT SCP ITS ⟨b1,b2,b3,b4,v1,v2,n1,n2,n3,n4,rfl,x1,x2,x3,x4,p1,p2⟩ hm
  refine ⟨_,_,(by rw [e_callf,callee_binary1]),(show polW.pure 134 = false from rfl),?_⟩
  refine wpF_ok ok134 ?_
  obtain ⟨f1,as1,hc1,hp1,e1⟩:=k1 lo v1 H m _ _ _ _ _ _ _ _ _ _ _ _ p1 hm
  simp -implicitDefEqProofs (maxDischargeDepth:=12) only [wpF,cf134,WZ,seval,x1,hc1]
  refine wA_call hp1 (e1.mono ?_)
  rintro o H1 ⟨v,rfl,rfl,o1⟩
  refine ⟨_,rfl,fun c hc => by simp at hc,?_⟩
  have y2:=(o1.cells b2 (cells_lt x2) (by simp)).trans x2
  have y3:=(o1.cells b3 (cells_lt x3) (by simp)).trans x3
  have y4:=(o1.cells b4 (cells_lt x4) (by simp)).trans x4
  have hm1:=hm.only o1
  obtain ⟨f2,as2,hc2,hp2,e2⟩:=k2 lo v2 H1 m _ _ _ _ _ _ _ _ _ _ _ _ (q2.keep _ _ _ _ _ p2 o1 (fun b hb => by cases hb)) hm1
  simp -implicitDefEqProofs (maxDischargeDepth:=12) only [WZ,seval,y2,hc2]
  refine wA_call hp2 (e2.mono ?_)
  rintro o H2 ⟨v,rfl,rfl,o2⟩
  refine ⟨_,rfl,fun c hc => by simp at hc,?_⟩
  have z3:=(o2.cells b3 (cells_lt y3) (by simp)).trans y3
  have z4:=(o2.cells b4 (cells_lt y4) (by simp)).trans y4
  have hm2:=hm1.only o2
  have hx2 : H2.cells m = _:=hm2
  simp -implicitDefEqProofs (maxDischargeDepth:=12) only [WZ,seval,hx2,z3,e_callf,callee_cmp7]
  have inner : Ev prog polW (.call 319 [.ptr m 0,.sc (.int .i64 a),.sc (.int .i64 b),.ptr b4 0]) H2 fun o H' => ∃ v,o = .val v∧v = .sc (.int .i64 (if c then 1 else 0))∧H' = H2:=by
    refine wpF_ok ok319 ?_
    simp -implicitDefEqProofs (maxDischargeDepth:=12) only [wpF,cf319,WZ,seval,z4,e_callf,hf.1]
    refine wA_call hf.2.1 ((hf.2.2 H2).mono ?_)
    rintro o H3 ⟨v,rfl,rfl,rfl⟩
    refine ⟨_,rfl,fun c hc => by simp at hc,?_⟩
    simp -implicitDefEqProofs (maxDischargeDepth:=12) only [WZ,seval]
    refine wA_call rfl ((truth_ev c _).mono ?_)
    rintro o H4 ⟨v,rfl,rfl,rfl⟩
    refine ⟨_,rfl,fun c hc => by simp at hc,?_⟩
    simp -implicitDefEqProofs (maxDischargeDepth:=12) only [WZ,seval]
  refine wA_call (show polW.pure 319 = false from rfl) (inner.mono ?_)
  rintro o H3 ⟨v,rfl,rfl,rfl⟩
  refine ⟨_,rfl,fun c hc => by simp at hc,?_⟩
  have hb1 : ¬ (if c then (1 : Int) else 0) < -1099511627776:=by split <;> omega
  have hb2 : ¬ 1099511627776 < (if c then (1 : Int) else 0):=by split <;> omega
  simp -implicitDefEqProofs (maxDischargeDepth:=12) only [WZ,seval]
  refine wA_call rfl ((bounded_in hm2 _ hb1 hb2).mono ?_)
  rintro o H4 ⟨v,rfl,rfl,rfl⟩
  refine ⟨_,rfl,fun c hc => by simp at hc,?_⟩
  simp -implicitDefEqProofs (maxDischargeDepth:=12) only [WZ,seval]
  exact o1.trans o2
end Go.Hem
namespace Go.Hem
theorem e_mul64 {a b : Int} : bintOf .mul (.sc (.int .i64 a)) (.sc (.int .i64 b)) = some (.sc (.int .i64 (IntKind.i64.wrap (a * b)))):=by
  unfold bintOf; simp
theorem times_ev (a b : Int) (a1 : -9223372036854775807 ≤ a) (a2 : a ≤ 9223372036854775807) (b1 : -9223372036854775807 ≤ b) (b2 : b ≤ 9223372036854775807)
    (c : Int) (hz : a = 0→c = 0)
    (hs : a ≠ 0→¬ (1099511627776 : Int).tdiv (a.natAbs : Int) < (b.natAbs : Int)→c = a * b∧-9223372036854775808 ≤ a * b∧a * b ≤ 9223372036854775807)
    (hb : a ≠ 0→(1099511627776 : Int).tdiv (a.natAbs : Int) < (b.natAbs : Int)→c = 1099511627777) :
    OpIs 459 a b c:=by
  refine ⟨fun args => acB_spec ac459 args,rfl,?_⟩
  rintro H m x0 x1 x2 x3 x4 x5 x6 x7 st OUT SCP ITS hm
  refine wpF_ok ok459 ?_
  have wa : IntKind.i64.wrap (0 - a) = -a:=by rw [w64 (by omega) (by omega)]; omega
  have wb : IntKind.i64.wrap (0 - b) = -b:=by rw [w64 (by omega) (by omega)]; omega
  have ma : (if a < -a then -a else a) = (a.natAbs : Int):=by split <;> omega
  have mb : (if b < -b then -b else b) = (b.natAbs : Int):=by split <;> omega
  by_cases ca : a = 0
  · have hc:=hz ca
    have w0 : IntKind.i64.wrap 0 = 0:=by decide
    simp -implicitDefEqProofs (maxDischargeDepth:=12) only [wpF,cf459,WZ,seval,ca,e_mul64,Int.zero_mul,w0,hc]
    exact Only.refl
  · have na : ¬ (a.natAbs : Int) = 0:=by omega
    have q1 : -9223372036854775808 ≤ (1099511627776 : Int).tdiv (a.natAbs : Int):=by
      have:=Int.tdiv_nonneg (a:=1099511627776) (b:=(a.natAbs : Int)) (by decide) (by omega); omega
    have q2 : (1099511627776 : Int).tdiv (a.natAbs : Int) ≤ 9223372036854775807:=by
      have:=Int.tdiv_le_self (a:=1099511627776) (a.natAbs : Int) (by decide); omega
    simp -implicitDefEqProofs (maxDischargeDepth:=12) only [wpF,cf459,WZ,seval,ca,s_prim]
    rw [e_neg (n:=b) rfl rfl,wb]
    simp -implicitDefEqProofs (maxDischargeDepth:=12) only [WZ,seval,mb]
    rw [e_neg (n:=a) rfl rfl,wa]
    simp -implicitDefEqProofs (maxDischargeDepth:=12) only [WZ,seval,ma,e_quo64 na,w64 q1 q2]
    by_cases cl : (1099511627776 : Int).tdiv (a.natAbs : Int) < (b.natAbs : Int)
    · have hc:=hb ca cl
      simp -implicitDefEqProofs (maxDischargeDepth:=12) only [WZ,seval,cl,hc]
      exact Only.refl
    · obtain ⟨hc,k1,k2⟩:=hs ca cl
      simp -implicitDefEqProofs (maxDischargeDepth:=12) only [WZ,seval,cl,e_mul64,w64 k1 k2,hc]
      exact Only.refl
end Go.Hem
namespace Go.Hem
def FailsE (Q : Nat→AV→AHeap→Prop) (e : Int) : Prop:=∀ lo w H m a0 a1 a2 a3 a4 a5 a6 a7 st OUT SCP ITS,Q lo w H→MSt m a0 a1 a2 a3 a4 a5 a6 a7 st OUT SCP ITS 0 H →
  ∃ f args,callvOf prog w [.ptr m 0] = some (.call f args)∧polW.pure f = false∧Ev prog polW (.call f args) H fun o H' => ∃ v,o = .val v∧v = .sc (.int .i64 0)∧MSt m a0 a1 a2 a3 a4 a5 a6 a7 st OUT SCP ITS e H'∧Only [m] H H'
def OpFails (f : FuncId) (a b e : Int) : Prop:=(∀ args,acallee prog f args = some (.call f args))∧polW.pure f = false∧∀ H m a0 a1 a2 a3 a4 a5 a6 a7 st OUT SCP ITS,MSt m a0 a1 a2 a3 a4 a5 a6 a7 st OUT SCP ITS 0 H →
  Ev prog polW (.call f [.ptr m 0,.sc (.int .i64 a),.sc (.int .i64 b)]) H fun o H' => ∃ v,o = .val v∧v = .sc (.int .i64 0)∧MSt m a0 a1 a2 a3 a4 a5 a6 a7 st OUT SCP ITS e H'∧Only [m] H H'
theorem bounded_zero (m : Nat) (H : AHeap) : Ev prog polW (.call 135 [.ptr m 0,.sc (.int .i64 0)]) H fun o H' => ∃ v,o = .val v∧v = .sc (.int .i64 0)∧H' = H:=by
  refine wpF_ok ok135 ?_
  simp -implicitDefEqProofs (maxDischargeDepth:=12) only [wpF,cf135,WZ,seval,gt_iff_lt,show ¬ (0 : Int) < -1099511627776 by decide,show ¬ (1099511627776 : Int) < 0 by decide]
theorem bin_over {f : FuncId} {Q1 Q2 : Nat→AV→AHeap→Prop} {a b c : Int} (k1 : Evals Q1 a) (k2 : Evals Q2 b) (q2 : QOk Q2) (hf : OpIs f a b c) (h1 : c < -1099511627776 ∨ 1099511627776 < c) : FailsE (BinC f Q1 Q2) 14:=by
  rintro lo w H m a0 a1 a2 a3 a4 a5 a6 a7 st OUT SCP ITS ⟨b1,b2,b3,v1,v2,n1,n2,n3,rfl,x1,x2,x3,p1,p2⟩ hm
  refine ⟨_,_,(by rw [e_callf,callee_binary1]),(show polW.pure 134 = false from rfl),?_⟩
  refine wpF_ok ok134 ?_
  obtain ⟨f1,as1,hc1,hp1,e1⟩:=k1 lo v1 H m _ _ _ _ _ _ _ _ _ _ _ _ p1 hm
  simp -implicitDefEqProofs (maxDischargeDepth:=12) only [wpF,cf134,WZ,seval,x1,hc1]
  refine wA_call hp1 (e1.mono ?_)
  rintro o H1 ⟨v,rfl,rfl,o1⟩
  refine ⟨_,rfl,fun c hc => by simp at hc,?_⟩
  have y2:=(o1.cells b2 (cells_lt x2) (by simp)).trans x2
  have y3:=(o1.cells b3 (cells_lt x3) (by simp)).trans x3
  have hm1:=hm.only o1
  obtain ⟨f2,as2,hc2,hp2,e2⟩:=k2 lo v2 H1 m _ _ _ _ _ _ _ _ _ _ _ _ (q2.keep _ _ _ _ _ p2 o1 (fun b hb => by cases hb)) hm1
  simp -implicitDefEqProofs (maxDischargeDepth:=12) only [WZ,seval,y2,hc2]
  refine wA_call hp2 (e2.mono ?_)
  rintro o H2 ⟨v,rfl,rfl,o2⟩
  refine ⟨_,rfl,fun c hc => by simp at hc,?_⟩
  have z3:=(o2.cells b3 (cells_lt y3) (by simp)).trans y3
  have hm2:=hm1.only o2
  have hx2 : H2.cells m = _:=hm2
  simp -implicitDefEqProofs (maxDischargeDepth:=12) only [WZ,seval,hx2,z3,e_callf,hf.1]
  refine wA_call hf.2.1 ((hf.2.2 _ _ _ _ _ _ _ _ _ _ _ _ _ _ hm2).mono ?_)
  rintro o H3 ⟨v,rfl,rfl,o3⟩
  refine ⟨_,rfl,fun c hc => by simp at hc,?_⟩
  simp -implicitDefEqProofs (maxDischargeDepth:=12) only [WZ,seval]
  refine wA_call rfl ((bounded_out (hm2.only o3) c h1).mono ?_)
  rintro o H4 ⟨v,rfl,rfl,hm4,o4⟩
  refine ⟨_,rfl,fun c hc => by simp at hc,?_⟩
  simp -implicitDefEqProofs (maxDischargeDepth:=12) only [WZ,seval]
  exact ⟨hm4,(((o1.trans o2).trans o3).mono (fun b hb => by cases hb)).trans o4⟩
theorem bin_fails {f : FuncId} {Q1 Q2 : Nat→AV→AHeap→Prop} {a b e : Int} (k1 : Evals Q1 a) (k2 : Evals Q2 b) (q2 : QOk Q2) (hf : OpFails f a b e) : FailsE (BinC f Q1 Q2) e:=by
  rintro lo w H m a0 a1 a2 a3 a4 a5 a6 a7 st OUT SCP ITS ⟨b1,b2,b3,v1,v2,n1,n2,n3,rfl,x1,x2,x3,p1,p2⟩ hm
  refine ⟨_,_,(by rw [e_callf,callee_binary1]),(show polW.pure 134 = false from rfl),?_⟩
  refine wpF_ok ok134 ?_
  obtain ⟨f1,as1,hc1,hp1,e1⟩:=k1 lo v1 H m _ _ _ _ _ _ _ _ _ _ _ _ p1 hm
  simp -implicitDefEqProofs (maxDischargeDepth:=12) only [wpF,cf134,WZ,seval,x1,hc1]
  refine wA_call hp1 (e1.mono ?_)
  rintro o H1 ⟨v,rfl,rfl,o1⟩
  refine ⟨_,rfl,fun c hc => by simp at hc,?_⟩
  have y2:=(o1.cells b2 (cells_lt x2) (by simp)).trans x2
  have y3:=(o1.cells b3 (cells_lt x3) (by simp)).trans x3
  have hm1:=hm.only o1
  obtain ⟨f2,as2,hc2,hp2,e2⟩:=k2 lo v2 H1 m _ _ _ _ _ _ _ _ _ _ _ _ (q2.keep _ _ _ _ _ p2 o1 (fun b hb => by cases hb)) hm1
  simp -implicitDefEqProofs (maxDischargeDepth:=12) only [WZ,seval,y2,hc2]
  refine wA_call hp2 (e2.mono ?_)
  rintro o H2 ⟨v,rfl,rfl,o2⟩
  refine ⟨_,rfl,fun c hc => by simp at hc,?_⟩
  have z3:=(o2.cells b3 (cells_lt y3) (by simp)).trans y3
  have hm2:=hm1.only o2
  have hx2 : H2.cells m = _:=hm2
  simp -implicitDefEqProofs (maxDischargeDepth:=12) only [WZ,seval,hx2,z3,e_callf,hf.1]
  refine wA_call hf.2.1 ((hf.2.2 _ _ _ _ _ _ _ _ _ _ _ _ _ _ hm2).mono ?_)
  rintro o H3 ⟨v,rfl,rfl,hm3,o3⟩
  refine ⟨_,rfl,fun c hc => by simp at hc,?_⟩
  simp -implicitDefEqProofs (maxDischargeDepth:=12) only [WZ,seval]
  refine wA_call rfl ((bounded_zero m H3).mono ?_)
  rintro o H4 ⟨v,rfl,rfl,rfl⟩
  refine ⟨_,rfl,fun c hc => by simp at hc,?_⟩
  simp -implicitDefEqProofs (maxDischargeDepth:=12) only [WZ,seval]
  exact ⟨hm3,((o1.trans o2).mono (fun b hb => by cases hb)).trans o3⟩
theorem quo_fails (a : Int) : OpFails 460 a 0 15:=⟨fun args => acB_spec ac460 args,rfl,fun H m _ _ _ _ _ _ _ _ _ _ _ _ h => quo_zero a h⟩
theorem rem_fails (a : Int) : OpFails 462 a 0 15:=⟨fun args => acB_spec ac462 args,rfl,fun H m _ _ _ _ _ _ _ _ _ _ _ _ h => rem_zero a h⟩
end Go.Hem
namespace Go.Hem
section
variable {m : Nat} {a0 a1 a2 a3 a4 a5 a6 a7 : AV} {st : Nat} {OUT ITS : AV} {e : Int} {H : AHeap}
end
end Go.Hem
namespace Go.Hem
def ScpIs (w0 : AV) (B : Nat) (SCP : AV) (H : AHeap) : Prop:=(SCP = .slice B 0 1 1 1∧H.cells B = some [w0]) ∨ (SCP = .slice B 0 1 2 1∧∃ w1,H.cells B = some [w0,w1])
section
variable {m : Nat} {a0 a1 a2 a3 a4 a5 a6 a7 : AV} {st : Nat} {OUT ITS : AV} {e : Int} {H : AHeap}
theorem ScpIs.lt {w0 : AV} {B : Nat} {S : AV} (h : ScpIs w0 B S H) : B < H.next:=by
  rcases h with ⟨_,h⟩ | ⟨_,w1,h⟩ <;> exact cells_lt h
theorem ScpIs.only {w0 : AV} {B : Nat} {S : AV} {H' : AHeap} {bs : List Nat} (h : ScpIs w0 B S H) (o : Only bs H H') (hb : B ∉ bs) : ScpIs w0 B S H':=by
  have q:=o.cells B h.lt hb
  rcases h with ⟨h1,h⟩ | ⟨h1,w1,h⟩
  · exact .inl ⟨h1,q.trans h⟩
  · exact .inr ⟨h1,w1,q.trans h⟩
end
end Go.Hem
