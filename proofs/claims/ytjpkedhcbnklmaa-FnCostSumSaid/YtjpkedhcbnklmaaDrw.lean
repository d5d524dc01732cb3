/-
  Own work. Draws, plainly: the cursor.
-/
import Derived.Test.YtjpkedhcbnklmaaDvc
import Derived.Test.YtjpkedhcbnklmaaD
namespace Go.Pf
open Go Go.Pu
set_option linter.unusedVariables false
theorem gand_le (x:Int) {m:Nat} (hm:m<4611686018427387904):0<=gand .i64 x (m:Int)/\gand .i64 x (m:Int)<=(m:Int):=by
  unfold gand
  have h0:(BitVec.ofInt 64 x &&& BitVec.ofInt 64 (m:Int)).toNat<=m:=by
    rw [BitVec.toNat_and]
    refine Nat.le_trans Nat.and_le_right ?_
    rw [BitVec.toNat_ofInt]
    have:((m:Int) % ((2 ^ 64:Nat):Int)).toNat=m:=by omega
    omega
  show 0<=wrap .i64 ((BitVec.ofInt 64 x &&& BitVec.ofInt 64 (m:Int)).toNat:Int)/\wrap .i64 ((BitVec.ofInt 64 x &&& BitVec.ofInt 64 (m:Int)).toNat:Int)<=(m:Int)
  rw [wrap_ok (by omega)]
  omega
theorem gshift_ok (a:Int) {b:Int} (h:0<=b/\b<64):∃z,gshift false .i64 a b=some z:=by
  unfold gshift
  rw [if_pos (show 0<=b/\b<((IntKind.i64).bits:Int) from h)]
  exact ⟨_,rfl⟩
abbrev Cur:=Int×Int
def CurOk (b:List Int) (c:Cur):Prop:=0<=c.1/\c.1<=(b.length:Int)
def CdOk (b:List Int):Prop:=b.length<=1048576
theorem byte_ok {b:List Int} {c:Cur} (hb:CdOk b) (hc:CurOk b c):∃x c',spec_l01Byte (b,c)=some (x,c')/\CurOk b c'∧0<=x/\x<=255:=by
  unfold CdOk at hb
  unfold CurOk at hc
  unfold spec_l01Byte
  dsimp only
  obtain ⟨z1,h1⟩:=gshift_ok (wrap .i64 (wrap .i64 (c.2*6364136223846793005)+1442695040888963407)) (b:=33) (by omega)
  obtain ⟨z2,h2⟩:=gshift_ok (wrap .i64 (wrap .i64 (c.2*6364136223846793005)+1442695040888963407)) (b:=45) (by omega)
  rw [h1,h2]
  simp only [Option.bind_some]
  by_cases q:c.1<(b.length:Int)
  · rw [dt q,cond_true,gget_some (by omega) q]
    simp only [Option.bind_some]
    refine ⟨_,_,rfl,?_,?_⟩
    · rw [wrap_ok (by omega)];exact ⟨by simp only;omega,by simp only;omega⟩
    · exact gand_le _ (m:=255) (by omega)
  · rw [df q,cond_false]
    exact ⟨_,_,rfl,hc,gand_le _ (m:=255) (by omega)⟩
theorem grem_in {a n:Int} (h0:0<=a) (hn:0<n):∃z,grem a n=some z/\0<=z/\z<n:=by
  refine ⟨a % n,grem_nn h0 hn,Int.emod_nonneg _ (by omega),Int.emod_lt_of_pos _ hn⟩
theorem below_ok {b:List Int} {c:Cur} (hb:CdOk b) (hc:CurOk b c) (n:Int):∃x c',spec_l01Below ((b,c),n)=some (x,c')/\CurOk b c'∧(n<=0->x=0)/\(0<n->0<=x/\x<n):=by
  unfold spec_l01Below
  dsimp only
  by_cases h1:n<=0
  · rw [dt h1,cond_true]
    exact ⟨0,c,rfl,hc,fun _=>rfl,fun h=>by omega⟩
  rw [df h1,cond_false]
  by_cases h2:n<=256
  · rw [dt h2,cond_true]
    obtain ⟨x,c1,e1,k1,x0,x1⟩:=byte_ok hb hc
    rw [e1]
    simp only [Option.bind_some]
    obtain ⟨z,e2,z0,z1⟩:=grem_in x0 (show 0<n by omega)
    rw [e2]
    exact ⟨z,c1,rfl,k1,fun h=>by omega,fun _=>⟨z0,z1⟩⟩
  · rw [df h2,cond_false]
    obtain ⟨x,c1,e1,k1,x0,x1⟩:=byte_ok hb hc
    obtain ⟨y,c2,e2,k2,y0,y1⟩:=byte_ok hb k1
    obtain ⟨u,c3,e3,k3,u0,u1⟩:=byte_ok hb k2
    obtain ⟨w,c4,e4,k4,w0,w1⟩:=byte_ok hb k3
    rw [e1]
    simp only [Option.bind_some]
    rw [e2]
    simp only [Option.bind_some]
    rw [e3]
    simp only [Option.bind_some]
    rw [e4]
    simp only [Option.bind_some]
    rw [wrap_ok (z:=x*16777216) (by omega),wrap_ok (z:=y*65536) (by omega),wrap_ok (z:=x*16777216+y*65536) (by omega),wrap_ok (z:=u*256) (by omega),wrap_ok (z:=x*16777216+y*65536+u*256) (by omega),wrap_ok (z:=x*16777216+y*65536+u*256+w) (by omega)]
    obtain ⟨z,e5,z0,z1⟩:=grem_in (show 0<=x*16777216+y*65536+u*256+w by omega) (show 0<n by omega)
    rw [e5]
    exact ⟨z,c4,rfl,k4,fun h=>by omega,fun _=>⟨z0,z1⟩⟩
theorem once_ok {b:List Int} {c:Cur} (hb:CdOk b) (hc:CurOk b c) (n:Int):∃x c',spec_l01Once ((b,c),n)=some (x,c')/\CurOk b c' :=by
  unfold spec_l01Once
  obtain ⟨x,c1,e1,k1,_⟩:=below_ok hb hc n
  rw [e1]
  exact ⟨_,c1,rfl,k1⟩
theorem pick_ok {b:List Int} {c:Cur} (hb:CdOk b) (hc:CurOk b c) {l:List Int} (hl:0<l.length):∃x c',spec_l01PickInt ((b,c),l)=some (x,c')/\CurOk b c'∧x∈l:=by
  unfold spec_l01PickInt
  dsimp only
  obtain ⟨x,c1,e1,k1,_,x1⟩:=below_ok hb hc (l.length:Int)
  have x1:=x1 (by omega)
  rw [e1]
  simp only [Option.bind_some]
  obtain ⟨n,rfl⟩:∃n:Nat,x=(n:Int):=⟨x.toNat,by omega⟩
  have hn:n<l.length:=by omega
  rw [gget_nat hn]
  exact ⟨_,c1,rfl,k1,List.getElem_mem hn⟩
theorem new_ok {b:List Int} (hb:CdOk b):∃c,spec_l01New b=some c/\CurOk b c:=by
  unfold CdOk at hb
  have key:∃o:Int⊕Cur,Pu.loop (fun (v3:(Int×Int))=>
      let v4:Int:=((b).length:Int)
      let v5:Bool:=decide (v3.2<v4)
      bif v5 then (
        let v6:Bool:=decide (v3.2<4000)
        bif v6 then (
          let v7:Int:=wrap .i64 (v3.1*131)
          (gget 0 b v3.2).bind fun v8=>
          let v9:Int:=wrap .i64 v8
          let v10:Int:=wrap .i64 (v7+v9)
          let v11:Int:=wrap .i64 (v10+7)
          let v12:Int:=gand .i64 v11 1073741823
          let v13:Int:=wrap .i64 (v3.2+1)
          some (.inl (v12,v13))) else
        Option.map Sum.inr (
          some (.inl v3.1))) else
      Option.map Sum.inr (
        some (.inl v3.1))) (wrap .i64 (33117+(b.length:Int)),0)=some o/\∃z,o= .inl z:=by
    refine loop_spec (fun s:Int×Int=>0<=s.2/\s.2<=(b.length:Int)) (fun o:Int⊕Cur=>∃z:Int,o= .inl z) (fun s=>((b.length:Int) - s.2).toNat) (fun s hs=> ?_) _ ⟨by simp,by simp⟩
    obtain ⟨h,i⟩:=s
    obtain ⟨i0,i1⟩:=hs
    simp only at i0 i1
    dsimp only
    by_cases h1:i<(b.length:Int)
    · rw [dt h1,cond_true]
      by_cases h2:i<4000
      · left
        rw [dt h2,cond_true,gget_some i0 h1]
        simp only [Option.bind_some]
        refine ⟨_,rfl,⟨?_,?_⟩,?_⟩
        · simp only;rw [wrap_ok (by omega)];omega
        · simp only;rw [wrap_ok (by omega)];omega
        · simp only;rw [wrap_ok (by omega)];omega
      · right
        rw [df h2,cond_false]
        exact ⟨_,rfl,_,rfl⟩
    · right
      rw [df h1,cond_false]
      exact ⟨_,rfl,_,rfl⟩
  obtain ⟨o,h1,z,rfl⟩:=key
  unfold spec_l01New
  dsimp only at h1 ⊢
  rw [h1]
  exact ⟨(0,z),rfl,by unfold CurOk;simp⟩
theorem big_ok (b:List Int):laws_big b=some (decide (1048576<(b.length:Int))):=rfl
end Go.Pf
